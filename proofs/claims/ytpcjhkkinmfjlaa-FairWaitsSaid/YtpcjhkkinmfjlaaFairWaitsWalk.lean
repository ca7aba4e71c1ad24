/- The walk of FairWaits. -/
import Derived.Test.YtpcjhkkinmfjlaaFairE
import Derived.Test.YtpcjhkkinmfjlaaFairF
import Derived.Test.YtpcjhkkinmfjlaaGrow
namespace Go.Proofs.Ytpcjhkkinmfjlaa
open Go.RowKit

/-- Who wants: one place all the while, and those of a row. -/
def wantL (p who : Nat) (row : List Bool) : List Bool := (List.range p).map fun k => decide (k = who) || row.getD k false
/-- How far ahead of a place its turn is. -/
def dist (p last who : Int) : Int := (who - last - 1) % p

theorem dist_arith (p last who i : Int) (hp1 : 1 ≤ p) (hp2 : p ≤ 12) (l1 : -1 ≤ last) (l2 : last < p) (w1 : 0 ≤ who) (w2 : who < p) (i1 : 0 ≤ i) (i2 : i ≤ dist p last who) :
    (last + 1 + dist p last who) % p = who ∧ (i < dist p last who → dist p ((last + 1 + i) % p) who = dist p last who - i - 1) ∧ (i = dist p last who → (last + 1 + i) % p = who) ∧ 0 ≤ dist p last who ∧ dist p last who < p := by
  unfold dist at *
  have : p = 1 ∨ p = 2 ∨ p = 3 ∨ p = 4 ∨ p = 5 ∨ p = 6 ∨ p = 7 ∨ p = 8 ∨ p = 9 ∨ p = 10 ∨ p = 11 ∨ p = 12 := by omega
  rcases this with rfl | rfl | rfl | rfl | rfl | rfl | rfl | rfl | rfl | rfl | rfl | rfl <;> omega

theorem info_bool : (Try.prog.info? 4).map (fun i => (i.zero, i.size, i.bytes)) = some (some (.bool false), 1, 1) := by kernel_rfl

theorem wantL_get (p who : Nat) (row : List Bool) (k : Nat) (hk : k < p) : (wantL p who row).getD k false = (decide (k = who) || row.getD k false) := by
  unfold wantL
  simp [List.getD_eq_getElem?_getD, hk]

/-- Somebody is served, who wants; if it is not the one that waits, that one's turn is nearer. -/
theorem served (p who : Nat) (last : Int) (row : List Bool) (hp1 : 1 ≤ p) (hp2 : p ≤ 12) (l1 : -1 ≤ last) (l2 : last < p) (hw : who < p) :
    ∃ k : Nat, seeR p last (ansL p last (wantL p who row)) = some (k : Int) ∧ k < p ∧ (wantL p who row).getD k false = true ∧ (k ≠ who → dist p k who < dist p last who) := by
  have hd := dist_arith p last who 0 (by omega) (by omega) l1 l2 (by omega) (by omega) (by omega)
  have d0 : 0 ≤ dist p last who := Int.emod_nonneg _ (by omega)
  have d1 : dist p last who < p := Int.emod_lt_of_pos _ (by omega)
  obtain ⟨hd1, -⟩ := hd d0
  have hyes : ansL p last (wantL p who row) (dist p last who).toNat = true := by
    unfold ansL
    rw [show (((dist p last who).toNat : Nat) : Int) = dist p last who by omega, hd1, Int.toNat_natCast, wantL_get _ _ _ _ hw]
    simp
  cases hf : firstI p (ansL p last (wantL p who row)) with
  | none =>
    unfold firstI at hf
    rw [List.find?_range_eq_none] at hf
    have := hf (dist p last who).toNat (by omega)
    simp [hyes] at this
  | some i =>
    have hr : seeR p last (ansL p last (wantL p who row)) = some ((last + 1 + (i : Int)) % (p : Int)) := by
      simp only [seeR, hf]
      rfl
    unfold firstI at hf
    rw [List.find?_range_eq_some] at hf
    obtain ⟨h1, h2, h3⟩ := hf
    have hi : i ≤ (dist p last who).toNat := by
      rcases Nat.lt_or_ge (dist p last who).toNat i with h | h
      · have := h3 _ h
        simp [hyes] at this
      · exact h
    have z0 : 0 ≤ (last + 1 + (i : Int)) % (p : Int) := Int.emod_nonneg _ (by omega)
    have z1 : (last + 1 + (i : Int)) % (p : Int) < p := Int.emod_lt_of_pos _ (by omega)
    obtain ⟨-, a2, a3, -, -⟩ := dist_arith p last who i (by omega) (by omega) l1 l2 (by omega) (by omega) (by omega) (by omega)
    obtain ⟨k, hk⟩ := Int.eq_ofNat_of_zero_le z0
    rw [hk] at hr z1 a2 a3
    refine ⟨k, hr, by omega, ?_, fun hne => ?_⟩
    · unfold ansL at h1
      rw [hk, Int.toNat_natCast] at h1
      exact h1
    · have : (i : Int) ≠ dist p last who := fun e => hne (by have := a3 e; omega)
      have := a2 (by omega)
      omega

set_option maxRecDepth 100000 in
set_option maxHeartbeats 1600000 in
theorem walk_FairWaits {w : World} (a0 : Int) (w0 : (Lit.int .i64 a0).wf = true) (a1 : Int) (w1 : (Lit.int .i64 a1).wf = true) (v : Value) (vs : List Value) (l : List (List Bool)) (hv : SlV w v vs) (_ : vs.length ≤ maxLen) (hl : l.length = vs.length)
    (hr : ∀ i, i < vs.length → SlV w (vs.getD i undef) ((l.getD i []).map Value.bool) ∧ (l.getD i []).length ≤ maxLen) :
    Calls Try.prog 4 #[.int .i64 a0, .int .i64 a1, v] w fun e w' => e = .returned (.bool true) ∧ Below w.heap.size w w' := by
  have hrows : Rows2 w v vs l := ⟨hv, hl, fun i hi => (hr i hi).1⟩
  clear hv hl hr w0 w1
  obtain ⟨p, hp1, hp2, hp⟩ := umod1 a0 12 (by omega) (by omega)
  have hup : IntKind.u64.wrap (p : Int) = p := by simp only [IntKind.wrap_u64]; omega
  obtain ⟨who, hw1, hw⟩ := umod a1 p (by omega) (by omega)
  rw [← hup, ← hp] at hw
  have hz : ¬ IntKind.u64.wrap (wrap64 (1 + wrap64 ((IntKind.u64.wrap a0).tmod 12))) = 0 := by rw [hp, hup]; omega
  have HP := Lib.hid hp
  have HW := Lib.hid hw
  have HU := Lib.hid hup
  clear hp hup hw
  go_enter Try.func4, Try.ntmps4
  go_wp2_with fail
  refine (fair_lives w).mono ?_
  rintro e w1 ⟨rfl, b1⟩
  have m1 : Mod (fun _ => False) w w1 := Mod.of_below b1 rfl _
  clear b1
  go_wp2_with fail
  rw [HW.out, HP.out, HU.out]
  generalize (IntKind.u64.wrap a1).tmod p = zz
  refine (fair_new _ w1).mono ?_
  rintro e w2 ⟨rfl, hw2⟩
  have e0 : nPl p = p := by unfold nPl; omega
  rw [e0] at hw2
  have f2 : FairAt w2 w1.heap.size p (-1) := hw2 ▸ FairAt.made _ _ _
  have m2 : Mod (fun _ => False) w w2 := m1.trans (hw2 ▸ (Mod.refl (fun _ => False) w1).alloc _) (by simp)
  have s1 := m1.size
  have s2 := f2.lt
  clear hw2 m1 e0 hz
  go_wp2_with fail
  refine (run_few v vs l w2 (hrows.later m2)).mono ?_
  rintro e w4 ⟨v', vs', rfl, m34, hrows4, h40⟩
  have f4 := f2.later m34 (by simp)
  have m4 := m2.trans m34 (by simp)
  clear m2 m34 f2 hrows
  generalize (l.take 40).map (·.take 20) = ll at hrows4
  obtain ⟨h1, h2, h3⟩ := hrows4
  obtain ⟨a, n, c, rfl, hn, hnc, hm, -⟩ := id h1
  have H1 := Lib.hid h1
  have H2 := Lib.hid h2
  have H3 := Lib.hid h3
  rw [hn] at h40
  have HN := Lib.hid hn
  clear h1 h2 h3 hn hm
  obtain ⟨F, hF⟩ : ∃ F, F = w1.heap.size := ⟨_, rfl⟩
  rw [← hF] at f4 s2 ⊢
  have hF0 : w.heap.size ≤ F := by omega
  have hF4 := f4.lt
  clear hF s1 s2
  go_wp2
  go_loopw [8] (fun i wr => ∃ (k : Nat) (last : Int), k ≤ n ∧ i = .int .i64 k ∧ Fit p last ∧ FairAt wr F p last ∧ Mod (· = F) w4 wr) (fun i _ => n - (intOf i).toNat)
  case atStart => exact ⟨0, -1, by omega, rfl, ⟨by omega, by omega, by omega, by omega⟩, f4, Mod.refl _ _⟩
  case round =>
    obtain ⟨k, last, hk, rfl, hfit, hf, hmod⟩ := hrel
    by_cases hlt : k < n
    · obtain ⟨B, off, rfl, hB, hcell⟩ := H1.out.at k hlt
      have hrow := H3.out k (by have := HN.out; omega)
      obtain ⟨ar, nr, cr, hvr, hnr, hcr, hmr, -⟩ := id hrow
      rw [hvr] at hcell hrow
      have hBF := f4.ne (by simp) hcell
      generalize ll.getD k [] = row at hrow hnr
      rw [List.length_map] at hnr
      have HROW := Lib.hid hrow
      have HNR := Lib.hid hnr
      clear hrow hvr hnr hmr hcr
      have f5 := hf
      clear hf
      go_wp2
      obtain ⟨wA, rfl⟩ : ∃ wo : World, wo = wr := ⟨_, rfl⟩
      go_loopw [9] (fun x wx => ∃ (x' : Nat) (last' : Int), x = .int .i64 x' ∧ Fit p last' ∧ FairAt wx F p last' ∧ Mod (· = F) wA wx ∧ (x' : Int) + dist p last' who < p) (fun x _ => (p - (intOf x).toNat))
      case atStart => exact ⟨0, last, rfl, hfit, f5, Mod.refl _ _, by have := Int.emod_lt_of_pos ((who : Int) - last - 1) (show (0 : Int) < p by omega); unfold dist; omega⟩
      case round =>
        obtain ⟨x', last', rfl, hfit', hf', hmod', hx'⟩ := hrel
        obtain ⟨wx, rfl⟩ : ∃ wo : World, wo = wr := ⟨_, rfl⟩
        have hmm := hmod.trans hmod' (fun _ _ h => h)
        have hd0 : 0 ≤ dist p last' who := Int.emod_nonneg _ (by have := hfit'.p1; omega)
        have hrow' := HROW.out.later' hmm (fun B off x hx hc hS => f4.ne (bools_ne _ x hx) hc hS)
        have hcell' := (hmm.cell (p := ⟨B, off + k, none⟩) hB hBF).trans hcell
        have HROW' := Lib.hid hrow'
        have hBx := Nat.lt_of_lt_of_le hB hmm.size
        clear hrow'
        go_wp2
        go_loopw [10, 11] (fun o i wy => ∃ j : Nat, j ≤ p ∧ i = .int .i64 j ∧ wy.ownsRow wx.heap.size 4 1 o j ((List.range j).map fun q => .bool (decide (q = who) || row.getD q false)) ∧ Mod (fun _ => False) wx wy) (fun _ i _ => p - (intOf i).toNat)
        case atStart => exact ⟨0, by omega, rfl, World.ownsRow_nil _ _ _ _, Mod.refl _ _⟩
        case round =>
          obtain ⟨j, hj, rfl, hown, hmy⟩ := hrel
          have hsy : wx.heap.size ≤ wr.heap.size := hmy.size
          by_cases hjp : j < p
          · have hcy := (hmy.cell (p := ⟨B, off + k, none⟩) hBx (by simp)).trans hcell'
            have hstep : ∀ b : Bool, b = (decide (j = who) || row.getD j false) → ((List.range (j + 1)).map fun q => Value.bool (decide (q = who) || row.getD q false)) = ((List.range j).map fun q => Value.bool (decide (q = who) || row.getD q false)) ++ [.bool b] := by
              intro b hb
              rw [List.range_succ, List.map_append, hb]
              rfl
            have HST := Lib.hid hstep
            clear hstep
            have hlow := fun i (hi : i < wx.heap.size) e => Nat.not_le_of_lt hi (hown.lt i e).1
            by_cases hjw : j = who
            · have ht : ((j : Int) == (who : Int)) = true := by simp [hjw]
              have HE := Lib.hid hjw
              clear hjw
              go_wp2_with (at_builtin; refine wpList_appendE rfl _ _ 34 rfl wx.heap.size 4 (.bool false) 1 1 Try.underlying34 info_bool rfl (by decide) _ j _ rfl hown #[_] rfl rfl (by simp [Value.oneCell']) (by unfold maxLen; omega) (by omega) (by omega) ?_; intro g cap wz hown2 hm2 hat2)
              have hmz := hmy.trans hm2 (fun i hi hs => hlow i hi hs)
              have hown3 : wz.ownsRow wx.heap.size 4 1 (.slice (some ⟨g, 0, none⟩) (j + 1) cap) (j + 1) ((List.range (j + 1)).map fun q => Value.bool (decide (q = who) || row.getD q false)) := by rw [HST.out _ (by rw [decide_eq_true HE.out, Bool.true_or])]; exact hown2
              have HO := Lib.hid hown3
              clear hm2 hown2 hown3 hown hcy hmy hlow
              go_wp2
              go_roundw
              case rel => exact ⟨j + 1, by omega, by go_num, HO.out, hmz⟩
              case measure => simp [intOf]; omega
            · have ht : ((j : Int) == (who : Int)) = false := by simp; omega
              have HE := Lib.hid hjw
              clear hjw
              by_cases hjn : j < nr
              · obtain ⟨B', off', rfl, hB', hc'⟩ := HROW'.out.at j hjn
                have hv : (row.map Value.bool).getD j undef = .bool (row.getD j false) := by
                  have : j < row.length := by have := HNR.out; omega
                  simp [List.getD_eq_getElem?_getD, this]
                rw [hv] at hc'
                have hc'' := (hmy.cell (p := ⟨B', off' + j, none⟩) hB' (by simp)).trans hc'
                generalize hb : row.getD j false = b at hc''
                have HB := Lib.hid hb
                clear hb hv hc'
                go_wp2_with (at_builtin; refine wpList_appendE rfl _ _ 34 rfl wx.heap.size 4 (.bool false) 1 1 Try.underlying34 info_bool rfl (by decide) _ j _ rfl hown #[_] rfl rfl (by simp [Value.oneCell']) (by unfold maxLen; omega) (by omega) (by omega) ?_; intro g cap wz hown2 hm2 hat2)
                have hmz := hmy.trans hm2 (fun i hi hs => hlow i hi hs)
                have hown3 : wz.ownsRow wx.heap.size 4 1 (.slice (some ⟨g, 0, none⟩) (j + 1) cap) (j + 1) ((List.range (j + 1)).map fun q => Value.bool (decide (q = who) || row.getD q false)) := by rw [HST.out _ (by rw [HB.out, decide_eq_false HE.out, Bool.false_or])]; exact hown2
                have HO := Lib.hid hown3
                clear hm2 hown2 hown3 hown hcy hmy hlow
                go_wp2
                go_roundw
                case rel => exact ⟨j + 1, by omega, by go_num, HO.out, hmz⟩
                case measure => simp [intOf]; omega
              · have hb : row.getD j false = false := by rw [List.getD_eq_getElem?_getD, List.getElem?_eq_none (by have := HNR.out; omega)]; rfl
                have HB := Lib.hid hb
                clear hb
                go_wp2_with (at_builtin; refine wpList_appendE rfl _ _ 34 rfl wx.heap.size 4 (.bool false) 1 1 Try.underlying34 info_bool rfl (by decide) _ j _ rfl hown #[_] rfl rfl (by simp [Value.oneCell']) (by unfold maxLen; omega) (by omega) (by omega) ?_; intro g cap wz hown2 hm2 hat2)
                have hmz := hmy.trans hm2 (fun i hi hs => hlow i hi hs)
                have hown3 : wz.ownsRow wx.heap.size 4 1 (.slice (some ⟨g, 0, none⟩) (j + 1) cap) (j + 1) ((List.range (j + 1)).map fun q => Value.bool (decide (q = who) || row.getD q false)) := by rw [HST.out _ (by rw [HB.out, decide_eq_false HE.out, Bool.false_or])]; exact hown2
                have HO := Lib.hid hown3
                clear hm2 hown2 hown3 hown hcy hmy hlow
                go_wp2
                go_roundw
                case rel => exact ⟨j + 1, by omega, by go_num, HO.out, hmz⟩
                case measure => simp [intOf]; omega
          · have hjp' : j = p := by omega
            subst hjp'
            have hw : ((List.range j).map fun q => Value.bool (decide (q = who) || row.getD q false)) = (wantL j who row).map Value.bool := by simp [wantL]
            rw [hw] at hown
            have hsl := SlV.own hown
            obtain ⟨kk, hk1, hk2, hk3, hk4⟩ := served j who last' row hp1 (by omega) hfit'.l1 hfit'.l2 (by omega)
            have hk5 : ((wantL j who row).map Value.bool).getD kk undef = .bool true := by
              have hkl : kk < (wantL j who row).length := by simp [wantL, hk2]
              have h5 : (wantL j who row)[kk] = true := by simpa [List.getD_eq_getElem?_getD, hkl] using hk3
              simp [List.getD_eq_getElem?_getD, hkl, h5]
            have hfy := hf'.later hmy (by simp)
            have HSL := Lib.hid hsl
            have HK1 := Lib.hid hk1
            have HK4 := Lib.hid hk4
            have HK5 := Lib.hid hk5
            have hlow := fun i (hi : i < wx.heap.size) e => Nat.not_le_of_lt hi (hown.lt i e).1
            have hFx := hf'.lt
            clear hw hsl hk1 hk3 hk4 hk5
            go_wp2_with fail
            refine (fair_of F j last' _ (wantL j who row) _ hfy hfit' HSL.out).mono ?_
            rw [HK1.out]
            rintro e wz ⟨rfl, mz, fz⟩
            have hsz := HSL.out.later (S := (· = F)) mz (fun a n c hv => by
              intro e
              rw [hv] at hown
              have := (hown.lt F (by simp [Value.ownBlock, e])).1
              omega)
            simp only [Option.getD_some, Option.isSome_some] at fz ⊢
            obtain ⟨aw, nw, cw, hvw, hnw, hcw, hmw, -⟩ := id hsz
            rw [List.length_map] at hnw
            have hnw' : nw = j := by rw [← hnw]; simp [wantL]
            subst hvw
            subst hnw'
            obtain ⟨Bw, offw, rfl, hBw, hcw'⟩ := hsz.at kk hk2
            rw [HK5.out] at hcw'
            have mzz : Mod (· = F) wA wz := (hmod'.trans hmy (by simp)).trans mz (fun _ _ h => h)
            have mz4 : Mod (· = F) w4 wz := hmod.trans mzz (fun _ _ h => h)
            have hcz := (mz4.cell (p := ⟨B, off + k, none⟩) hB hBF).trans hcell
            have hrz := HROW.out.later' mz4 (fun B off x hx hc hS => f4.ne (bools_ne _ x hx) hc hS)
            have HRZ := Lib.hid hrz
            have hfz : Fit nw kk := ⟨by omega, by omega, by omega, by omega⟩
            have hdk : 0 ≤ dist nw kk who := Int.emod_nonneg _ (by omega)
            clear hnw hsz mz hfy hown hlow hmy hrz
            by_cases hkw : kk = who
            · have ht : ((kk : Int) == (who : Int)) = true := by simp [hkw]
              clear hkw
              go_wp2_with fail
              refine (fair_of F nw kk _ row _ fz hfz HRZ.out).mono ?_
              rintro e wq ⟨rfl, mq, fq⟩
              have hfq := hfz.next (ansL nw kk row)
              have mq4 := mz4.trans mq (fun _ _ h => h)
              clear mq mz4 mzz fz
              go_wp2
              go_roundw
              case rel => exact ⟨k + 1, _, by omega, by go_num, hfq, fq, mq4⟩
              case measure => simp [intOf]; omega
            · have ht : ((kk : Int) == (who : Int)) = false := by simp; omega
              have hd2 := HK4.out hkw
              have hx2 : (x' : Int) + 1 < nw := by omega
              clear hkw
              go_wp2
              go_roundw
              case rel => exact ⟨x' + 1, kk, by go_num, hfz, fz, mzz, by omega⟩
              case measure => simp [intOf]; omega
    · go_wp2
      go_ret
      exact ⟨rfl, (m4.trans (S := fun _ => False) hmod (fun i hi h => by omega)).below⟩

end Go.Proofs.Ytpcjhkkinmfjlaa
