/- bank.begin: the accounts of a bank that begins. -/
import Derived.Test.YtchkdidpnjakeaaGreatDoorGASums
namespace Go.Proofs.YtchkdidpnjakeaaGreatDoor
open Go.RowKit Go.Maps Go.Lib
set_option linter.unusedVariables false
set_option maxRecDepth 100000

def BegP (K : Kk) (D : ByteArray → Dst) (u : Su) (ps : List Py) (w : World) (e : Ending) (w' : World) : Prop := e = .returned (.tuple #[]) ∧ ∃ cs, Led.Srt cs ∧ ((∀ c ∈ cs, c.size ≤ maxLen) ∧ ∀ c, c.size ≤ maxLen → (c ∈ cs ↔ CurOf u c)) ∧ cs.length ≤ 26 ∧ Bk w' K 2000 0 20 ⟨beginG K ps cs u.fd, [], D⟩ ∧ Fk K w w'
theorem dlA_all (d : Dl) (A : Option Addr) (c : Nat) : (dlA d A c).all (·.oneCell') = true := by simp [dlA, Value.oneCell']
set_option maxHeartbeats 8000000 in
theorem begin_any {w : World} {K : Kk} {D : ByteArray → Dst} (x : Bk w K 0 0 0 ⟨fun _ => none, [], D⟩) (hK : KOk K) {u : Su} {a : Sa} (hu : SuOk u) (hA : SuAt w K.base u a) {PA : Option Addr} {ps : List Py} (pc : Nat) (hP : PyT w PA ps) (hpl : ps.length ≤ 16) (hps : ∀ y ∈ ps, y.nm.size ≤ 1048576) :
    Calls Tryz.prog 147 #[.pointer (some ⟨K.bb, 0, none⟩), .agg #[.slice a.PA u.par.length a.pc, .slice a.DA u.dl.length a.dc, .slice a.FA u.fd.length a.fc, .slice a.RA u.rest.length a.rc, .slice a.HA u.hol.length a.hc], .slice PA ps.length pc] w fun e w' => BegP K D u ps w e w' := by
  have hmm := @run_makeMap Tryz.prog
  obtain ⟨V, hV⟩ : ∃ V, V = suA u a := ⟨_, rfl⟩
  obtain ⟨W1, hW1⟩ : ∃ W1, W1 = (w.alloc (.cells V 29)).alloc (.map #[] 0) := ⟨_, rfl⟩
  have HI0 : Hid (CuI w W1 V 0 (fun _ => False)) := Lib.hid (by
    have hM := Mp.made (C := curC) (E := yesE) (w.alloc (.cells V 29))
    have hb0 : Below w.heap.size w (w.alloc (.cells V 29)) := (Below.refl _ _).alloc (Nat.le_refl _) _
    have hs : (w.alloc (.cells V 29)).heap.size = w.heap.size + 1 := by simp
    rw [hs] at hM
    have h0 := heap_alloc_new w (.cells V 29)
    rw [hW1]
    exact ⟨hb0.alloc (by omega) _, alloc_old _ _ _ (by simp) h0, _, hM, fun c => by simp⟩)
  have hle := x.le
  have hfl := hu.fd
  have hdl := hu.dl
  have HA : Hid (∀ X, Below w.heap.size w X → SuAt X K.base u a) := Lib.hid fun X hX => hA.below (hX.mono hle)
  have HX := Lib.hid x
  have HP := Lib.hid hP
  have hbw : K.base ≤ w.heap.size := hle
  have HVc : Hid (∀ X : World, X.heap[w.heap.size]? = some (.cells V 29 (0, 0)) → X.cell? ⟨w.heap.size, 1, none⟩ = some (.slice a.DA u.dl.length a.dc) ∧ X.cell? ⟨w.heap.size, 2, none⟩ = some (.slice a.FA u.fd.length a.fc)) := Lib.hid fun X h => by
    rw [hV] at h
    exact ⟨by simp [World.cell?, h, suA], by simp [World.cell?, h, suA]⟩
  have HW := Lib.hid hW1
  have HVV := Lib.hid hV
  obtain ⟨hf1, hf2⟩ := HVc.out W1 HI0.out.2.1
  clear x hP hA hW1 hV
  go_enter Tryz.func147, Tryz.ntmps147
  go_upto_region 2 with fail
  have hE : #[Value.slice a.PA u.par.length a.pc, .slice a.DA u.dl.length a.dc, .slice a.FA u.fd.length a.fc, .slice a.RA u.rest.length a.rc, .slice a.HA u.hol.length a.hc] = V := HVV.out.symm
  rw [hE]
  rw [← HW.out]
  clear hE HW HVV hmm
  go_wp2_with fail
  clear hf1 hf2
  go_loopw [24, 8] (fun i _ wr => ∃ k : Nat, k ≤ u.fd.length ∧ i = .int .i64 (k : Int) ∧ Hid (CuI w wr V k (fun c => ∃ e ∈ u.fd.take k, e.cur = c))) (fun i _ _ => u.fd.length - (RowKit.intOf i).toNat)
  case atStart => exact ⟨0, Nat.zero_le _, rfl, by simpa using HI0⟩
  case round =>
    clear HI0
    obtain ⟨k, hk, rfl, HI⟩ := hrel
    by_cases hlt : k < u.fd.length
    · have b1 : (k : Int) < (u.fd.length : Int) := by omega
      obtain ⟨e, he⟩ : ∃ e, u.fd[k]? = some e := ⟨u.fd[k], List.getElem?_eq_getElem hlt⟩
      have heq : u.fd[k] = e := (List.getElem?_eq_some_iff.1 he).2
      obtain ⟨g, off, hFA, hg, c0, c1, c2⟩ := (HA.out wr HI.out.1).fd.at_ hlt
      rw [heq] at c0 c1 c2
      have hgw : g < wr.heap.size := by have := HI.out.1.size; omega
      obtain ⟨w', r1, hI'⟩ := HI.out.step (by have := hu.fd; omega) (.cells #[.string e.acc, .string e.cur, .int .i64 e.n] 51) (c := e.cur) (by have := (hu.fds e (List.mem_of_getElem? he)).2.1; unfold maxLen; omega) (Q' := fun c => ∃ e ∈ u.fd.take (k + 1), e.cur = c) (fun c => take_ex he _)
      have HI2 := Lib.hid hI'
      clear hI' HI heq he
      rw [hFA]
      go_wp2_with fail
      go_roundw
      case rel => exact ⟨k + 1, by omega, by go_num, HI2⟩
      case measure => simp [RowKit.intOf]; omega
    · have b1 : ¬ (k : Int) < (u.fd.length : Int) := by omega
      obtain rfl : k = u.fd.length := by omega
      have HI1 : Hid (CuI w wr V 20 (fun c => ∃ e ∈ u.fd, e.cur = c)) := Lib.hid (by
        obtain ⟨h1, h2, F, h3, h4⟩ := HI.out
        rw [List.take_length] at h4
        exact ⟨h1, h2, F, h3.mono hu.fd, h4⟩)
      obtain ⟨hf1, hf2⟩ := HVc.out wr HI1.out.2.1
      have hsl := HI1.out.low
      clear HI
      go_wp2_with fail
      go_loopw [35, 10] (fun i _ wr => ∃ k : Nat, k ≤ u.dl.length ∧ i = .int .i64 (k : Int) ∧ Hid (CuI w wr V (20 + k) (fun c => (∃ e ∈ u.fd, e.cur = c) ∨ ∃ d ∈ u.dl.take k, d.cur = c))) (fun i _ _ => u.dl.length - (RowKit.intOf i).toNat)
      case atStart => exact ⟨0, Nat.zero_le _, rfl, by simpa using HI1⟩
      case round =>
        clear HI1 hf1 hf2 hsl hlt b1
        obtain ⟨k, hk, rfl, HI⟩ := hrel
        by_cases hlt : k < u.dl.length
        · have b1 : (k : Int) < (u.dl.length : Int) := by omega
          obtain ⟨d, hd⟩ : ∃ d, u.dl[k]? = some d := ⟨u.dl[k], List.getElem?_eq_getElem hlt⟩
          obtain ⟨g, off, A', c', hDA, hg, hc, _, _⟩ := (HA.out wr HI.out.1).dl.at_ hd
          have hgw : g < wr.heap.size := by have := HI.out.1.size; omega
          obtain ⟨w', r1, hI'⟩ := HI.out.step (by omega) (.cells (dlA d A' c') 72) (c := d.cur) (by have := (hu.dls d (List.mem_of_getElem? hd)).str d.cur (by simp); unfold maxLen; omega) (Q' := fun c => (∃ e ∈ u.fd, e.cur = c) ∨ ∃ d ∈ u.dl.take (k + 1), d.cur = c) (fun c => by rw [take_ex hd, or_assoc])
          have HI2 := Lib.hid hI'
          have HRg := Lib.hid (show wr.rangeAt g (off + k * 17) (dlA d A' c').toList from fun j v hv => hc j v (by simpa using hv))
          have HIb := Lib.hid (show (Tryz.prog.info? 72).map (·.size) = some (dlA d A' c').toList.length from infoDl17)
          have HIs := Lib.hid (show (Tryz.prog.info? 72).map (·.size) = some (dlA d A' c').size from infoDl17)
          have HOn := Lib.hid (dlA_all d A' c')
          have HSz := Lib.hid (show 17 = (dlA d A' c').size from rfl)
          have k9 : (wr.alloc (.cells (dlA d A' c') 72)).cell? ⟨wr.heap.size, 9, none⟩ = some (.string d.cur) := by simp [dlA]
          clear hI' HI hd hc
          generalize dlA d A' c' = U at *
          rw [hDA]
          go_wp2_with (first
            | (refine wpList_load_mid rfl 72 (.tmp 37) rfl g (off + k * 17) rfl U.toList _ HRg.out Tryz.underlying72 rfl HIb.out ?_)
            | (refine wpList_store_row rfl 72 (.tmp 10) (.tmp 38) rfl wr.heap.size U rfl rfl 72 _ (heap_alloc_new _ _) HIs.out HSz.out HOn.out ?_; rw [setRow_allocB])
            | fail)
          go_roundw
          case rel => exact ⟨k + 1, by omega, by go_num, HI2⟩
          case measure => simp [RowKit.intOf]; omega
        · have b1 : ¬ (k : Int) < (u.dl.length : Int) := by omega
          obtain rfl : k = u.dl.length := by omega
          have HI1 : Hid (CuI w wr V 26 (CurOf u)) := Lib.hid (by
            obtain ⟨h1, h2, F, h3, h4⟩ := HI.out
            rw [List.take_length] at h4
            exact ⟨h1, h2, F, h3.mono (by omega), h4⟩)
          have hsl := HI1.out.low
          clear HI
          have HKf := Lib.hid (keys_fnB (some (w.heap.size + 1)) wr)
          have HSo : Hid (Calls Tryz.prog 181 #[.func (.func 208) #[] #[.pointer (some ⟨wr.heap.size, 0, none⟩)]] (wr.alloc (.cells #[.map (some (w.heap.size + 1))] 67)) fun e w' => ∃ B c keys, e = .returned (.slice B (List.length keys) c) ∧ Hid (Led.Srt keys ∧ ∀ x, x.size ≤ maxLen → (x ∈ keys ↔ CurOf u x)) ∧ Hid (∀ x ∈ keys, x.size ≤ maxLen) ∧ keys.length ≤ 26 ∧ Hid (Ky w' wr.heap.size (.slice B (List.length keys) c) keys) ∧ Hid (Below w.heap.size w w' ∧ w'.heap[w.heap.size]? = some (.cells V 29 (0, 0)))) := Lib.hid (by
            obtain ⟨h1, h2, F, h3, h4⟩ := HI1.out
            refine (sortedKeysB_any wr _ 26 F h3 (by omega)).mono ?_
            rintro e w' ⟨B, c, keys, rfl, k1, k2, k3, k4, k5, k6⟩
            exact ⟨B, c, keys, rfl, Lib.hid ⟨k1, fun x hx => (k3 x hx).trans (h4 x)⟩, Lib.hid fun x hx => k2 x hx, k4, Lib.hid k5, Lib.hid ⟨h1.trans (k6.mono (by omega)), (k6.block _ (by omega)).trans h2⟩⟩)
          clear HI1
          go_wp2_with fail
          refine HKf.out.mono ?_
          rintro e w1 ⟨rfl, rfl⟩
          go_wp2_with fail
          refine HSo.out.mono ?_
          rintro e w2 ⟨B, c, cs, rfl, HSr, HSz, hcl, HKy, HB2⟩
          clear HKf HSo
          have HX2 := Lib.hid (HX.out.below HB2.out.1)
          have HI0 : Hid (BgI K D w2 w2 (49 * 0) 0 (fun _ => none)) := Lib.hid ⟨HX2.out, Fk.refl _ _⟩
          have HPt : Hid (∀ X, Fk K w2 X → PyT X PA ps) := Lib.hid fun X hX => (HP.out.keep (Im.of_below HB2.out.1)).keep (hX.im HX2.out)
          have HSu : Hid (∀ X, Fk K w2 X → SuAt X K.base u a ∧ K.base ≤ X.heap.size) := Lib.hid fun X hX => ⟨(HA.out w2 HB2.out.1).below hX.below, Nat.le_trans (Nat.le_trans hbw HB2.out.1.size) hX.size⟩
          have HCl : Hid (∀ X, Fk K w2 X → X.cell? ⟨w.heap.size, 2, none⟩ = some (.slice a.FA u.fd.length a.fc) ∧ w.heap.size < X.heap.size) := Lib.hid fun X hX => by
            have h := hX.im HX2.out _ _ _ _ HB2.out.2 (by decide)
            exact ⟨(HVc.out X h).2, (Array.getElem?_eq_some_iff.1 h).1⟩
          have HKc : Hid (∀ X, Fk K w2 X → ∀ j s, cs[j]? = some s → ∃ g, B = some ⟨g, 0, none⟩ ∧ g < X.heap.size ∧ X.cell? ⟨g, j, none⟩ = some (.string s)) := Lib.hid fun X hX j s hs => by
            have hj := (List.getElem?_eq_some_iff.1 hs).1
            obtain ⟨g, rfl⟩ : ∃ g, B = some ⟨g, 0, none⟩ := by
              rcases HKy.out.2 with ⟨h, hn0⟩ | ⟨g, cap, cur, he, _⟩
              · exact absurd hj (by omega)
              · injection he with he _ _; exact ⟨g, he⟩
            obtain ⟨kc, kcs, kfr, kb⟩ := HKy.out.cell hs
            have h := hX.im HX2.out _ _ _ _ kb (by decide)
            refine ⟨g, rfl, (Array.getElem?_eq_some_iff.1 h).1, ?_⟩
            rw [World.cell?, h]
            rw [World.cell?, kb] at kc
            exact kc
          have HEnd : Hid (∀ wr, BgI K D w2 wr 1314 20 (beginG K ps cs u.fd) → BegP K D u ps w (.returned (.tuple #[])) wr) := Lib.hid fun wr h => ⟨rfl, cs, HSr.out.1, ⟨HSz.out, HSr.out.2⟩, hcl, h.1.mono (by omega) (Nat.le_refl _) (Nat.le_refl _), (Fk.of_below HX.out HB2.out.1).trans h.2⟩
          have hM : (1073741824 : Nat) ≤ maxLen := by decide
          clear HX HP HA HVc HSr HB2 HKy HX2
          go_wp2_with fail
          go_loopw [48, 12, 14, 16] (fun i _ _ _ wr => ∃ j : Nat, j ≤ cs.length ∧ i = .int .i64 (j : Int) ∧ Hid (BgI K D w2 wr (49 * j) 0 ((cs.take j).foldl (openC K ps) (fun _ => none)))) (fun i _ _ _ _ => cs.length - (RowKit.intOf i).toNat)
          case atStart => exact ⟨0, Nat.zero_le _, rfl, HI0⟩
          case round =>
            clear HI0
            obtain ⟨j, hj, rfl, HI⟩ := hrel
            by_cases hlt : j < cs.length
            · have b1 : (j : Int) < (cs.length : Int) := by omega
              obtain ⟨c, hc⟩ : ∃ c, cs[j]? = some c := ⟨cs[j], List.getElem?_eq_getElem hlt⟩
              have hcz := HSz.out c (List.mem_of_getElem? hc)
              obtain ⟨g, rfl, hg, kc⟩ := HKc.out wr HI.out.2 j c hc
              obtain ⟨kb3, kbl⟩ := HI.out.bb
              have hcap : capital.size ≤ maxLen := by decide
              have HO := Lib.hid (HI.out.open_ (Below.refl _ _) capital c (-1099511627776) (by exact hcap) hcz (by decide) (by decide) (by omega))
              have HStep : Hid (∀ X, BgI K D w2 X (49 * (j + 1)) 0 (openC K ps ((cs.take j).foldl (openC K ps) (fun _ => none)) c) → BgI K D w2 X (49 * (j + 1)) 0 ((cs.take (j + 1)).foldl (openC K ps) (fun _ => none))) := Lib.hid fun X h => by rw [foldl_take _ _ _ hc]; exact h
              clear HI hc
              generalize (cs.take j).foldl (openC K ps) (fun _ => none) = G at *
              go_wp2_with (first | (go_at_call 183; refine HO.out.mono ?_; rintro e w3 ⟨code, rfl, HI, kb3', kbl'⟩) | fail)
              clear kb3 kbl kc hg b1 HO
              have HI0 : Hid (BgI K D w2 w3 (49 * j + 1 + 0) 0 ((ps.take 0).foldl (custG K c) (openG G capital c (-1099511627776)))) := Lib.hid (HI.out.1)
              clear HI
              go_loopw [60, 14] (fun i _ wr => ∃ k : Nat, k ≤ ps.length ∧ i = .int .i64 (k : Int) ∧ Hid (BgI K D w2 wr (49 * j + 1 + k) 0 ((ps.take k).foldl (custG K c) (openG G capital c (-1099511627776))))) (fun i _ _ => ps.length - (RowKit.intOf i).toNat)
              case atStart => exact ⟨0, Nat.zero_le _, rfl, HI0⟩
              case round =>
                clear HI0 kb3' kbl'
                obtain ⟨k, hk, rfl, HI⟩ := hrel
                by_cases hlp : k < ps.length
                · have b1 : (k : Int) < (ps.length : Int) := by omega
                  obtain ⟨y, hy⟩ : ∃ y, ps[k]? = some y := ⟨ps[k], List.getElem?_eq_getElem hlp⟩
                  have hyz := hps y (List.mem_of_getElem? hy)
                  have hym : y.nm.size ≤ maxLen := by omega
                  obtain ⟨g, off, hPA, hg, c0, c1, c2⟩ := (HPt.out wr HI.out.2).at_ hy
                  have HCu := Lib.hid (HI.out.cust y.nm (.string y.bk) (.int .i64 y.kd) 38 (by decide) hym)
                  have HStp : Hid (∀ X, BgI K D w2 X (49 * j + 1 + (k + 1)) 0 (custG K c ((ps.take k).foldl (custG K c) (openG G capital c (-1099511627776))) y) → BgI K D w2 X (49 * j + 1 + (k + 1)) 0 ((ps.take (k + 1)).foldl (custG K c) (openG G capital c (-1099511627776)))) := Lib.hid fun X h => by rw [foldl_take _ _ _ hy]; exact h
                  clear HI hy hyz
                  rw [hPA]
                  generalize (ps.take k).foldl (custG K c) (openG G capital c (-1099511627776)) = G4 at *
                  cases hcu : custB K y.nm with
                  | false =>
                    rw [hcu] at HCu
                    go_wp2_with (first | (go_at_call 184; refine HCu.out.mono ?_; rintro e w4 ⟨rfl, HI4, HZ4, kb3, kbl⟩) | fail)
                    have HI' := Lib.hid (HStp.out w4 (by
                      have e : custG K c G4 y = G4 := by unfold custG; rw [hcu]; rfl
                      rw [e]
                      exact HI4.out.mono (by omega) (Nat.le_refl _)))
                    clear HI4 HZ4 HCu HStp
                    go_roundw
                    case rel => exact ⟨k + 1, by omega, by go_num, HI'⟩
                    case measure => simp [RowKit.intOf]; omega
                  | true =>
                    rw [hcu] at HCu
                    go_upto_region 20 with (first | (go_at_call 184; refine HCu.out.mono ?_; rintro e w4 ⟨rfl, HI4, HZ4, kb3, kbl⟩) | fail)
                    obtain ⟨kz0, _, _, kzl⟩ := HZ4.out.cell
                    have HO := Lib.hid fun (Y : World) (hY : Below w4.heap.size w4 Y) => (HI4.out.open_ hY y.nm c 0 hym hcz (by omega) (by omega) (by omega)).mono (fun e w' h => (by
                      obtain ⟨code, h1, h2, h3, h4⟩ := h
                      have hr : custG K c G4 y = openG G4 y.nm c 0 := by unfold custG; rw [hcu]; rfl
                      exact ⟨code, h1, Lib.hid (HStp.out w' (by rw [hr]; exact h2.out.1)), h3, (h2.out.2 _ _ _ _ _ HZ4.out).cell.1⟩ : ∃ code : Int, e = .returned (.int .i64 code) ∧ Hid (BgI K D w2 w' (49 * j + 1 + (k + 1)) 0 ((ps.take (k + 1)).foldl (custG K c) (openG G capital c (-1099511627776)))) ∧ w'.cell? ⟨K.bb, 3, none⟩ = some (.pointer (some ⟨K.p, 0, none⟩)) ∧ w'.cell? ⟨wr.heap.size, 0, none⟩ = some (.string y.nm)))
                    clear HCu HStp HI4 HZ4 hcu
                    go_region_held3 (fun w' => w'.cell? ⟨K.bb, 3, none⟩ = some (.pointer (some ⟨K.p, 0, none⟩)) ∧ w'.cell? ⟨wr.heap.size, 0, none⟩ = some (.string y.nm))
                      (first | go_keep | exact ⟨k3, k0⟩)
                      (first | (go_at_call 183; refine (HO.out _ (by first | exact (Below.refl _ _).drew | exact Below.refl _ _)).mono ?_; rintro e w5 ⟨code, rfl, HI', k3, k0⟩))
                    clear HO
                    go_wp2_with fail
                    go_roundw
                    case rel => exact ⟨k + 1, by omega, by go_num, HI'⟩
                    case measure => simp [RowKit.intOf]; omega
                · have b1 : ¬ (k : Int) < (ps.length : Int) := by omega
                  obtain rfl : k = ps.length := by omega
                  obtain ⟨G6, hG6⟩ : ∃ G6, G6 = ps.foldl (custG K c) (openG G capital c (-1099511627776)) := ⟨_, rfl⟩
                  have HI0 : Hid (BgI K D w2 wr (49 * j + 17 + 2 * 0) 0 ((ps.take 0).foldl (othrG K c) G6)) := Lib.hid (by
                    have h := HI.out
                    rw [List.take_length, ← hG6] at h
                    exact h.mono (by omega) (Nat.le_refl _))
                  have HStep2 : Hid (∀ X, BgI K D w2 X (49 * j + 17 + 2 * ps.length) 0 ((ps.take ps.length).foldl (othrG K c) G6) → BgI K D w2 X (49 * (j + 1)) 0 ((cs.take (j + 1)).foldl (openC K ps) (fun _ => none))) := Lib.hid fun X h => by
                    rw [List.take_length, hG6] at h
                    exact HStep.out X (h.mono (by omega) (Nat.le_refl _))
                  clear HI HStep hG6
                  go_wp2_with fail
                  clear b1 hlp
                  go_loopw [79, 16] (fun i _ wr => ∃ k : Nat, k ≤ ps.length ∧ i = .int .i64 (k : Int) ∧ Hid (BgI K D w2 wr (49 * j + 17 + 2 * k) 0 ((ps.take k).foldl (othrG K c) G6))) (fun i _ _ => ps.length - (RowKit.intOf i).toNat)
                  case atStart => exact ⟨0, Nat.zero_le _, rfl, HI0⟩
                  case round =>
                    clear HI0
                    obtain ⟨k, hk, rfl, HI⟩ := hrel
                    by_cases hlp : k < ps.length
                    · have b1 : (k : Int) < (ps.length : Int) := by omega
                      obtain ⟨y, hy⟩ : ∃ y, ps[k]? = some y := ⟨ps[k], List.getElem?_eq_getElem hlp⟩
                      have hyz := hps y (List.mem_of_getElem? hy)
                      have hym : y.nm.size ≤ maxLen := by omega
                      have u1 : ¬ (9223372036854775807 < 7 + y.nm.size) := by omega
                      have u2 : 7 + y.nm.size ≤ 9223372036854775807 := by omega
                      obtain ⟨g, off, hPA, hg, c0, c1, c2⟩ := (HPt.out wr HI.out.2).at_ hy
                      have HCu := Lib.hid (HI.out.other y.nm (.string y.bk) (.int .i64 y.kd) 38 (by decide) hym)
                      have HStp : Hid (∀ X, BgI K D w2 X (49 * j + 17 + 2 * (k + 1)) 0 (othrG K c ((ps.take k).foldl (othrG K c) G6) y) → BgI K D w2 X (49 * j + 17 + 2 * (k + 1)) 0 ((ps.take (k + 1)).foldl (othrG K c) G6)) := Lib.hid fun X h => by rw [foldl_take _ _ _ hy]; exact h
                      clear HI hy
                      rw [hPA]
                      generalize (ps.take k).foldl (othrG K c) G6 = G4 at *
                      cases hcu : otherB K y.nm with
                      | false =>
                        rw [hcu] at HCu
                        clear hyz u1 u2
                        go_wp2_with (first | (go_at_call 185; refine HCu.out.mono ?_; rintro e w4 ⟨rfl, HI4, HZ4, kb3, kbl⟩) | fail)
                        have HI' := Lib.hid (HStp.out w4 (by
                          have e : othrG K c G4 y = G4 := by unfold othrG; rw [hcu]; rfl
                          rw [e]
                          exact HI4.out.mono (by omega) (Nat.le_refl _)))
                        clear HI4 HZ4 HCu HStp
                        go_roundw
                        case rel => exact ⟨k + 1, by omega, by go_num, HI'⟩
                        case measure => simp [RowKit.intOf]; omega
                      | true =>
                        rw [hcu] at HCu
                        go_upto_region 26 with (first | (go_at_call 185; refine HCu.out.mono ?_; rintro e w4 ⟨rfl, HI4, HZ4, kb3, kbl⟩) | fail)
                        obtain ⟨kz0, _, _, kzl⟩ := HZ4.out.cell
                        have hnz : (nostro y.nm).size ≤ maxLen := by unfold nostro; rw [ByteArray.size_append]; show 7 + y.nm.size ≤ _; omega
                        have hvz : (vostro y.nm).size ≤ maxLen := by rw [vostro_size]; omega
                        have HO := Lib.hid fun (Y : World) (hY : Below w4.heap.size w4 Y) => (HI4.out.open_ hY (nostro y.nm) c (-1099511627776) hnz hcz (by omega) (by omega) (by omega)).mono (fun e w' h => (by
                          obtain ⟨code, h1, h2, h3, h4⟩ := h
                          have hz := h2.out.2 _ _ _ _ _ HZ4.out
                          exact ⟨code, h1, Lib.hid ⟨h2.out.1, hz⟩, h3, hz.cell.1, h4, hz.cell.2.2.2⟩ : ∃ code : Int, e = .returned (.int .i64 code) ∧ Hid (BgI K D w2 w' (49 * j + 17 + 2 * k + 1) 0 (openG G4 (nostro y.nm) c (-1099511627776)) ∧ Row3c w' wr.heap.size y.nm (.string y.bk) (.int .i64 y.kd) 38) ∧ w'.cell? ⟨K.bb, 3, none⟩ = some (.pointer (some ⟨K.p, 0, none⟩)) ∧ w'.cell? ⟨wr.heap.size, 0, none⟩ = some (.string y.nm) ∧ K.bb < w'.heap.size ∧ wr.heap.size < w'.heap.size))
                        clear HCu HI4 HZ4
                        go_region_held3 (fun w' => w'.cell? ⟨K.bb, 3, none⟩ = some (.pointer (some ⟨K.p, 0, none⟩)) ∧ w'.cell? ⟨wr.heap.size, 0, none⟩ = some (.string y.nm))
                          (first | go_keep | exact ⟨k3, k0⟩)
                          (first | (go_at_call 183; refine (HO.out _ (by first | exact (Below.refl _ _).drew | exact Below.refl _ _)).mono ?_; rintro e w5 ⟨code, rfl, HI5, k3, k0, kbl5, kzl5⟩))
                        clear HO kb3 kbl kz0 kzl
                        have HO2 := Lib.hid fun (Y : World) (hY : Below w5.heap.size w5 Y) => (HI5.out.1.open_ hY (vostro y.nm) c 0 hvz hcz (by omega) (by omega) (by omega)).mono (fun e w' h => (by
                          obtain ⟨code, h1, h2, h3, h4⟩ := h
                          have hr : othrG K c G4 y = openG (openG G4 (nostro y.nm) c (-1099511627776)) (vostro y.nm) c 0 := by unfold othrG; rw [hcu]; rfl
                          exact ⟨code, h1, Lib.hid (HStp.out w' (by rw [hr]; exact h2.out.1)), h3, (h2.out.2 _ _ _ _ _ HI5.out.2).cell.1⟩ : ∃ code : Int, e = .returned (.int .i64 code) ∧ Hid (BgI K D w2 w' (49 * j + 17 + 2 * (k + 1)) 0 ((ps.take (k + 1)).foldl (othrG K c) G6)) ∧ w'.cell? ⟨K.bb, 3, none⟩ = some (.pointer (some ⟨K.p, 0, none⟩)) ∧ w'.cell? ⟨wr.heap.size, 0, none⟩ = some (.string y.nm)))
                        clear HStp HI5 hcu hnz hvz
                        go_upto_region 27 with fail
                        go_region_held3 (fun w' => w'.cell? ⟨K.bb, 3, none⟩ = some (.pointer (some ⟨K.p, 0, none⟩)) ∧ w'.cell? ⟨wr.heap.size, 0, none⟩ = some (.string y.nm))
                          (first | go_keep | exact ⟨k3', k0'⟩)
                          (first | (go_at_call 183; refine (HO2.out _ (by first | exact (Below.refl _ _).drew | exact Below.refl _ _)).mono ?_; rintro e w6 ⟨code2, rfl, HI', k3', k0'⟩))
                        clear HO2
                        go_wp2_with fail
                        go_roundw
                        case rel => exact ⟨k + 1, by omega, by go_num, HI'⟩
                        case measure => simp [RowKit.intOf]; omega
                    · have b1 : ¬ (k : Int) < (ps.length : Int) := by omega
                      obtain rfl : k = ps.length := by omega
                      have HI' := Lib.hid (HStep2.out wr HI.out)
                      clear HI HStep2
                      go_wp2_with fail
                      go_roundw
                      case rel => exact ⟨j + 1, by omega, by go_num, HI'⟩
                      case measure => simp [RowKit.intOf]; omega
            · have b1 : ¬ (j : Int) < (cs.length : Int) := by omega
              obtain rfl : j = cs.length := by omega
              obtain ⟨G8, hG8⟩ : ∃ G8, G8 = cs.foldl (openC K ps) (fun _ => none) := ⟨_, rfl⟩
              have HI0 : Hid (BgI K D w2 wr (1274 + 2 * 0) 0 ((u.fd.take 0).foldl (fundG K) G8)) := Lib.hid (by
                have h := HI.out
                rw [List.take_length, ← hG8] at h
                exact h.mono (by omega) (Nat.le_refl _))
              have HEnd2 : Hid (∀ X, BgI K D w2 X (1274 + 2 * u.fd.length) u.fd.length ((u.fd.take u.fd.length).foldl (fundG K) G8) → BegP K D u ps w (.returned (.tuple #[])) X) := Lib.hid fun X h => by
                rw [List.take_length, hG8] at h
                exact HEnd.out X (h.mono (by omega) hu.fd)
              obtain ⟨hf2, hsl⟩ := HCl.out wr HI.out.2
              clear HI HEnd hG8 hlt
              go_wp2_with fail
              clear b1
              go_loopw [110, 18, 19] (fun i _ _ wr => ∃ k : Nat, k ≤ u.fd.length ∧ i = .int .i64 (k : Int) ∧ Hid (BgI K D w2 wr (1274 + 2 * k) k ((u.fd.take k).foldl (fundG K) G8))) (fun i _ _ _ => u.fd.length - (RowKit.intOf i).toNat)
              case atStart => exact ⟨0, Nat.zero_le _, rfl, HI0⟩
              case round =>
                clear HI0 hf2 hsl
                obtain ⟨k, hk, rfl, HI⟩ := hrel
                by_cases hlp : k < u.fd.length
                · have b1 : (k : Int) < (u.fd.length : Int) := by omega
                  obtain ⟨y, hy⟩ : ∃ y, u.fd[k]? = some y := ⟨u.fd[k], List.getElem?_eq_getElem hlp⟩
                  have heq : u.fd[k] = y := (List.getElem?_eq_some_iff.1 hy).2
                  obtain ⟨hz0, hz1, hz2, hz3⟩ := hu.fds y (List.mem_of_getElem? hy)
                  have hym : y.acc.size ≤ maxLen := by omega
                  have hyc : y.cur.size ≤ maxLen := by omega
                  obtain ⟨hSA, hBz⟩ := HSu.out wr HI.out.2
                  obtain ⟨g, off, hFA, hg, c0, c1, c2⟩ := hSA.fd.at_ hlp
                  rw [heq] at c0 c1 c2
                  have hgw : g < wr.heap.size := by omega
                  have HCu := Lib.hid (HI.out.cust y.acc (.string y.cur) (.int .i64 y.n) 51 (by decide) hym)
                  have HStp : Hid (∀ X n l, n ≤ 1274 + 2 * (k + 1) → l ≤ k + 1 → BgI K D w2 X n l (fundG K ((u.fd.take k).foldl (fundG K) G8) y) → BgI K D w2 X (1274 + 2 * (k + 1)) (k + 1) ((u.fd.take (k + 1)).foldl (fundG K) G8)) := Lib.hid fun X n l h1 h2 h => by rw [foldl_take _ _ _ hy]; exact h.mono h1 h2
                  clear HI hy heq hSA
                  rw [hFA]
                  generalize (u.fd.take k).foldl (fundG K) G8 = G4 at *
                  cases hcu : custB K y.acc with
                  | false =>
                    rw [hcu] at HCu
                    go_wp2_with (first | (go_at_call 184; refine HCu.out.mono ?_; rintro e w4 ⟨rfl, HI4, HZ4, kb3, kbl⟩) | fail)
                    have HI' := Lib.hid (HStp.out w4 (1274 + 2 * k) k (by omega) (by omega) (by
                      have e : fundG K G4 y = G4 := by unfold fundG; rw [hcu]; rfl
                      rw [e]
                      exact HI4.out))
                    clear HI4 HZ4 HCu HStp
                    go_roundw
                    case rel => exact ⟨k + 1, by omega, by go_num, HI'⟩
                    case measure => simp [RowKit.intOf]; omega
                  | true =>
                    rw [hcu] at HCu
                    go_upto_region 34 with (first | (go_at_call 184; refine HCu.out.mono ?_; rintro e w4 ⟨rfl, HI4, HZ4, kb3, kbl⟩) | fail)
                    obtain ⟨kz0, kz1, kz2, kzl⟩ := HZ4.out.cell
                    obtain ⟨mn, hmn⟩ : ∃ mn, IntKind.i64.wrap (-y.n) = mn := ⟨_, rfl⟩
                    have hmn2 : wrap64 (-y.n) = mn := by rw [← hmn]; exact (IntWalk.i64_left _).symm
                    have HMn := Lib.hid hmn
                    obtain ⟨W5, hW5⟩ : ∃ W5, W5 = w4.alloc (.cells #[.string ⟨#[58, 99, 97, 112, 105, 116, 97, 108]⟩, .string y.cur, .int .i64 mn] 51) := ⟨_, rfl⟩
                    have hb5 : Below w4.heap.size w4 W5 := by rw [hW5]; exact (Below.refl _ _).alloc (Nat.le_refl _) _
                    have HI5 := Lib.hid (HI4.out.below hb5)
                    have HZ5 := Lib.hid (HZ4.out.below hb5)
                    have HC5 : Hid (Row3c W5 w4.heap.size ⟨#[58, 99, 97, 112, 105, 116, 97, 108]⟩ (.string y.cur) (.int .i64 mn) 51) := Lib.hid ⟨by rw [hW5]; exact heap_alloc_new _ _, by decide⟩
                    have HPo : Hid (∀ Y : World, Below W5.heap.size W5 Y → Y.heap[W5.heap.size]? = some (.cells #[.string y.acc, .string y.cur, .int .i64 y.n, .string ⟨#[58, 99, 97, 112, 105, 116, 97, 108]⟩, .string y.cur, .int .i64 mn] 51 (0, 0)) → Calls Tryz.prog 186 #[.pointer (some ⟨K.p, 0, none⟩), .string ⟨#[102, 117, 110, 100, 115]⟩, .slice (some ⟨W5.heap.size, 0, none⟩) 2 2] Y fun e w' => ∃ y1 code : Int, e = .returned (.tuple #[.int .i64 y1, .int .i64 code]) ∧ Hid (BgI K D w2 w' (1274 + 2 * (k + 1)) (k + 1) ((u.fd.take (k + 1)).foldl (fundG K) G8)) ∧ w'.cell? ⟨K.bb, 3, none⟩ = some (.pointer (some ⟨K.p, 0, none⟩)) ∧ w'.cell? ⟨wr.heap.size, 0, none⟩ = some (.string y.acc) ∧ w'.cell? ⟨wr.heap.size, 1, none⟩ = some (.string y.cur) ∧ w'.cell? ⟨wr.heap.size, 2, none⟩ = some (.int .i64 y.n) ∧ w'.cell? ⟨w4.heap.size, 0, none⟩ = some (.string ⟨#[58, 99, 97, 112, 105, 116, 97, 108]⟩) ∧ w'.cell? ⟨w4.heap.size, 1, none⟩ = some (.string y.cur) ∧ w'.cell? ⟨w4.heap.size, 2, none⟩ = some (.int .i64 mn)) := Lib.hid fun Y hY hblk => by
                      have hR := Led.re_two_at hblk
                      have he : Led.two y.acc ⟨#[58, 99, 97, 112, 105, 116, 97, 108]⟩ y.cur y.n mn = [y, lessE y] := by rw [← hmn]; rfl
                      rw [he] at hR
                      refine (HI5.out.post hY y hR hym hyc (by omega) (by omega) (by decide)).mono ?_
                      rintro e w' ⟨y1, code, rfl, h2, h3, h4⟩
                      obtain ⟨z0, z1, z2, _⟩ := (h2.out.2 _ _ _ _ _ HZ5.out).cell
                      obtain ⟨d0, d1, d2, _⟩ := (h2.out.2 _ _ _ _ _ HC5.out).cell
                      have hr : fundG K G4 y = postG G4 [y, lessE y] := by unfold fundG; rw [hcu]; rfl
                      exact ⟨y1, code, rfl, Lib.hid (HStp.out w' _ _ (Nat.le_refl _) (Nat.le_refl _) (by rw [hr]; exact h2.out.1)), h3, z0, z1, z2, d0, d1, d2⟩
                    obtain ⟨mb3, mbl⟩ := HI5.out.bb
                    obtain ⟨z0, z1, z2, zl⟩ := HZ5.out.cell
                    obtain ⟨d0, d1, d2, dl⟩ := HC5.out.cell
                    clear HCu HStp HI4 HZ4 HI5 HZ5 HC5 hb5 hcu
                    go_upto_region 35 with fail
                    rw [← hW5]
                    clear hW5 hmn hmn2 kz0 kz1 kz2 kb3 kbl
                    go_region_held3 (fun w' => w'.cell? ⟨K.bb, 3, none⟩ = some (.pointer (some ⟨K.p, 0, none⟩)) ∧ w'.cell? ⟨wr.heap.size, 0, none⟩ = some (.string y.acc) ∧ w'.cell? ⟨wr.heap.size, 1, none⟩ = some (.string y.cur) ∧ w'.cell? ⟨wr.heap.size, 2, none⟩ = some (.int .i64 y.n) ∧ w'.cell? ⟨w4.heap.size, 0, none⟩ = some (.string ⟨#[58, 99, 97, 112, 105, 116, 97, 108]⟩) ∧ w'.cell? ⟨w4.heap.size, 1, none⟩ = some (.string y.cur) ∧ w'.cell? ⟨w4.heap.size, 2, none⟩ = some (.int .i64 mn))
                      (first | go_keep | exact ⟨kb3, kk0, kk1, kk2, kj0, kj1, kj2⟩)
                      (first
                        | (go_at_call 186; refine (HPo.out _ (by first | exact (Below.refl _ _).alloc (Nat.le_refl _) _ | exact ((Below.refl _ _).alloc (Nat.le_refl _) _).drew) (by exact heap_alloc_new W5 _)).mono ?_; rintro e w9 ⟨y1, code, rfl, HI', kb3, kk0, kk1, kk2, kj0, kj1, kj2⟩))
                    clear HPo
                    go_wp2_with fail
                    go_roundw
                    case rel => exact ⟨k + 1, by omega, by go_num, HI'⟩
                    case measure => simp [RowKit.intOf]; omega
                · have b1 : ¬ (k : Int) < (u.fd.length : Int) := by omega
                  obtain rfl : k = u.fd.length := by omega
                  have HF := Lib.hid (HEnd2.out wr HI.out)
                  clear HI HEnd2
                  go_wp2_with fail
                  first
                    | exact HF.out
                    | (refine bodyPost_end (results_none rfl _ _ _) rfl ?_; exact HF.out)
end Go.Proofs.YtchkdidpnjakeaaGreatDoor
