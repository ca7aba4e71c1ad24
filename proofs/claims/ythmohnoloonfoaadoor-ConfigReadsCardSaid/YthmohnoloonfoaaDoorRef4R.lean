/- Contract of the reference of layer 4: Read. -/
import Derived.Test.YthmohnoloonfoaaDoorRef4P
import Derived.Test.YthmohnoloonfoaaDoorRef4T
import Derived.Test.YthmohnoloonfoaaDoorRef4C
namespace Go.Proofs.YthmohnoloonfoaaDoor
open Go.RowKit

theorem wFold_snoc (l : List UInt8) (b : UInt8) : wFold (l ++ [b]) = wStep (wFold l) b := by simp [wFold]
theorem wFold_len' : ∀ (l : List UInt8) (st : List (List UInt8) × List UInt8), (l.foldl wStep st).1.length + (l.foldl wStep st).2.length ≤ st.1.length + st.2.length + l.length
  | [], st => by simp
  | b :: l, st => by
    have := wFold_len' l (wStep st b)
    have h2 : (wStep st b).1.length + (wStep st b).2.length ≤ st.1.length + st.2.length + 1 := by
      unfold wStep
      split <;> simp <;> omega
    rw [List.foldl_cons, List.length_cons]
    omega
theorem wFold_len (l : List UInt8) : (wFold l).1.length + (wFold l).2.length ≤ l.length := by
  have := wFold_len' l ([], [])
  simpa [wFold] using this

theorem mem_snoc_dec (y x : List UInt8) (L : List (List UInt8)) : decide (y ∈ L ++ [x]) = (decide (y ∈ L) || (x == y)) := by
  rw [Bool.eq_iff_iff]
  simp only [decide_eq_true_eq, List.mem_append, List.mem_singleton, Bool.or_eq_true, beq_iff_eq]
  exact or_congr Iff.rfl eq_comm
def numCells (xs : List Int) : Array Value := (xs.map (Value.int .i64)).toArray
theorem wFold_sizes (B : Nat) : ∀ (l : List UInt8) (st : List (List UInt8) × List UInt8), (∀ x ∈ st.1, x.length ≤ B) → st.2.length + l.length ≤ B → (∀ x ∈ (l.foldl wStep st).1, x.length ≤ B) ∧ (l.foldl wStep st).2.length ≤ B
  | [], st, h, h2 => ⟨h, by simpa using h2⟩
  | b :: l, st, h, h2 => by
    rw [List.length_cons] at h2
    refine wFold_sizes B l (wStep st b) ?_ ?_
    · unfold wStep
      split
      · intro x hx
        rcases List.mem_append.1 hx with hx | hx
        · exact h x hx
        · obtain rfl : x = st.2 := by simpa using hx
          omega
      · exact h
    · unfold wStep
      split <;> simp <;> omega
theorem refWords_sizes {l : List UInt8} {B : Nat} (h : l.length ≤ B) : ∀ x ∈ refWords l, x.length ≤ B := by
  have := wFold_sizes B l ([], []) (by simp) (by simpa using h)
  intro x hx
  unfold refWords wFold at hx
  rcases List.mem_append.1 hx with hx | hx
  · exact this.1 x hx
  · obtain rfl := List.mem_singleton.1 hx
    exact this.2

set_option maxRecDepth 100000 in
set_option maxHeartbeats 1600000 in
theorem ref_Read (s : ByteArray) (hs : s.size ≤ 100) (w : World) (L : LibV w) (hw : 8 ≤ w.heap.size) :
    Calls Tryd.prog 18 #[.string s] w fun e w' => e = .returned (.tuple #[.agg (rr s).1.cells, .int .i64 (rr s).2]) ∧ Mod (fun _ => False) w w' := by
  obtain ⟨l, hl⟩ : ∃ l, s.data.toList = l := ⟨_, rfl⟩
  have hlz : l.length = s.size := by rw [← hl]; rfl
  have hget : ∀ (i : Nat) (h : i < s.size) (h2 : i < l.length), s[i] = l[i] := by
    intro i h h2
    subst hl
    rfl
  have hext : ∀ i, s.extract i (i + 1) = mkS ((l.drop i).take 1) := by
    intro i
    subst hl
    apply bytes_inj2
    rw [ByteArray.toList_eq, ByteArray.toList_eq, Lib.extract_data]
    simp
  have kr := Blk.made w (cfgCells [0, 0, 0, 0, 0, 0, 0]) 23
  have m0 : Mod (fun _ => False) w (w.alloc (.cells (cfgCells [0, 0, 0, 0, 0, 0, 0]) 23)) := (Mod.refl _ _).alloc _
  have HL := Lib.hid L
  have HLZ := Lib.hid hlz
  have HG := Lib.hid hget
  have HEX := Lib.hid hext
  have HS := Lib.hid hl
  clear L hl hlz hget hext
  simp only [cfgCells, List.map_cons, List.map_nil, List.cons_append, List.nil_append] at kr m0
  go_enter Tryd.func18, Tryd.ntmps18
  go_wp2_with fail
  generalize (w.alloc (.cells #[.int .i64 0, .int .i64 0, .int .i64 0, .int .i64 0, .int .i64 0, .int .i64 0, .int .i64 0, .bool false, .bool false] 23)) = w1 at kr m0 ⊢
  have hs1 := m0.size
  go_loopw [4, 5, 6] (fun o x i wr => ∃ (k : Nat) (ws : List (List UInt8)) (cur : List UInt8), k ≤ s.size ∧ i = .int .i64 k ∧ wFold (l.take k) = (ws, cur) ∧ x = .string (mkS cur) ∧ wr.ownsRow w1.heap.size 9 1 o ws.length (sws ws) ∧ Mod (fun g => w1.heap.size ≤ g) w1 wr) (fun _ _ i _ => s.size - (intOf i).toNat)
  case atStart => exact ⟨0, [], [], by omega, by simp, by simp [wFold], rfl, World.ownsRow_nil _ _ _ _, Mod.refl _ _⟩
  case round =>
    obtain ⟨k, ws, cur, hk, rfl, hfold, rfl, hown, hm⟩ := hrel
    obtain ⟨wA, rfl⟩ : ∃ wo : World, wo = wr := ⟨_, rfl⟩
    have hsz := hm.size
    have hwl := wFold_len (l.take k)
    rw [hfold] at hwl
    simp only [List.length_take] at hwl
    have hwl2 : ws.length ≤ 100 ∧ cur.length ≤ 100 := by omega
    obtain ⟨hwl3, hcl⟩ := hwl2
    have hcz : (mkS cur).size ≤ 100 := hcl
    obtain ⟨a, n, c, rfl, hn, hnc, hcm, -⟩ := SlV.own hown
    have hn2 : n = ws.length := by simpa [sws] using hn.symm
    have hlow := fun i e => (hown.lt i e).1
    have HF := Lib.hid hfold
    clear hfold hwl hn
    unfold maxLen at hcm
    by_cases hlt : k < s.size
    · obtain ⟨b, hb⟩ : ∃ b, l[k]? = some b := ⟨_, List.getElem?_eq_getElem (by have := HLZ.out; omega)⟩
      have hsb : s[k] = b := by
        rw [HG.out k hlt (by have := HLZ.out; omega)]
        exact List.getElem?_eq_some_iff.1 hb |>.2
      have hex : s.extract k (k + 1) = mkS [b] := by
        rw [HEX.out k]
        rw [List.take_one, List.head?_drop, hb]
        rfl
      have hst : wFold (l.take (k + 1)) = wStep (ws, cur) b := by rw [List.take_add_one, hb]; show wFold (l.take k ++ [b]) = _; rw [wFold_snoc, HF.out]
      have b0 : (0 : Int) ≤ (k : Int) := by omega
      have b1 : (k : Int) < (s.size : Int) := by omega
      have b2 : (k : Int) < 200 := by omega
      clear hb
      subst hn2
      by_cases h32 : b = 32
      · have HST := Lib.hid (show wFold (l.take (k + 1)) = (ws ++ [cur], []) by rw [hst]; unfold wStep; rw [if_pos (Or.inl h32)])
        subst h32
        clear hst
        go_wp2_with (at_builtin; refine wpList_appendE rfl _ _ 41 rfl w1.heap.size 9 (.string ⟨#[]⟩) 1 16 Tryd.underlying41 info_str rfl (by decide) _ _ _ rfl hown #[_] rfl rfl (by simp [Value.oneCell']) (by unfold maxLen; omega) (by omega) (by omega) ?_; intro g cap wz hown7 hm7 hat7)
        have hmz := hm.trans hm7 (fun i hi e => hlow i e)
        go_roundw
        case rel => exact ⟨k + 1, ws ++ [cur], [], by omega, by go_num, HST.out, rfl, by simpa [sws_snoc] using hown7, hmz⟩
        case measure => simp [intOf]; omega
      · by_cases h120 : b = 120 ∧ ws = []
        · obtain ⟨rfl, rfl⟩ := h120
          have HST := Lib.hid (show wFold (l.take (k + 1)) = ([cur], []) by rw [hst]; unfold wStep; rw [if_pos (Or.inr ⟨rfl, rfl⟩)]; rfl)
          clear hst h32
          go_wp2_with (at_builtin; refine wpList_appendE rfl _ _ 41 rfl w1.heap.size 9 (.string ⟨#[]⟩) 1 16 Tryd.underlying41 info_str rfl (by decide) _ _ _ rfl hown #[_] rfl rfl (by simp [Value.oneCell']) (by unfold maxLen; omega) (by omega) (by omega) ?_; intro g cap wz hown7 hm7 hat7)
          have hmz := hm.trans hm7 (fun i hi e => hlow i e)
          go_roundw
          case rel => exact ⟨k + 1, [cur], [], by omega, by go_num, HST.out, rfl, by simpa [sws] using hown7, hmz⟩
          case measure => simp [intOf]; omega
        · have HST := Lib.hid (show wFold (l.take (k + 1)) = (ws, cur ++ [b]) by rw [hst]; unfold wStep; rw [if_neg (by rintro (h | h); exact h32 h; exact h120 h)])
          have h32' : ((b.toNat : Int) == 32) = false := beq_eq_false_iff_ne.2 (fun e => h32 (UInt8.toNat_inj.1 (by have : (32 : UInt8).toNat = 32 := rfl; omega)))
          have hcat : mkS cur ++ mkS [b] = mkS (cur ++ [b]) := by
            apply ByteArray.ext
            simp [mkS]
          have HCAT := Lib.hid hcat
          have hbz : (mkS [b]).size ≤ 1 := Nat.le_refl 1
          have h2 : ((b.toNat : Int) == 120) = false ∨ (((b.toNat : Int) == 120) = true ∧ ((ws.length : Int) == 0) = false) := by
            by_cases h : b = 120
            · right
              refine ⟨by rw [h]; rfl, beq_eq_false_iff_ne.2 fun e => h120 ⟨h, List.eq_nil_of_length_eq_zero (by omega)⟩⟩
            · left
              exact beq_eq_false_iff_ne.2 (fun e => h (UInt8.toNat_inj.1 (by have : (120 : UInt8).toNat = 120 := rfl; omega)))
          clear hst h32 h120 hcat
          rcases h2 with h2 | ⟨h2, h3⟩
          all_goals
            go_wp2_with fail
            go_roundw
            case rel => exact ⟨k + 1, ws, cur ++ [b], by omega, by go_num, HST.out, congrArg Value.string HCAT.out, hown, hm⟩
            case measure => simp [intOf]; omega
    · obtain rfl : k = s.size := by omega
      have hW : refWords l = ws ++ [cur] := by
        have := HF.out
        rw [List.take_of_length_le (by have := HLZ.out; omega)] at this
        unfold refWords
        rw [this]
      have HW := Lib.hid hW
      clear hW hlt
      subst hn2
      go_upto_region 11 with (at_builtin; refine wpList_appendE rfl _ _ 41 rfl w1.heap.size 9 (.string ⟨#[]⟩) 1 16 Tryd.underlying41 info_str rfl (by decide) _ _ _ rfl hown #[_] rfl rfl (by simp [Value.oneCell']) (by unfold maxLen; omega) (by omega) (by omega) ?_; intro g cap wz hown7 hm7 hat7)
      have hm2 : Mod (fun g => w1.heap.size ≤ g) w1 wz := hm.trans hm7 (fun i hi e => hlow i e)
      have SW := slv_eq (SlV.own hown7) (ys := (refWords l).map fun x => .string (mkS x)) (by rw [HW.out]; simp [sws])
      have hWl : (refWords l).length = ws.length + 1 := by rw [HW.out]; simp
      have HRN := Lib.hid (rr_no (s := s))
      have HRY := Lib.hid (rr_yes (s := s))
      rw [HS.out] at HRN HRY
      have hWz : ∀ x ∈ refWords l, x.length ≤ 100 := refWords_sizes (by have := HLZ.out; omega)
      generalize refWords l = W at hWl SW HRN HRY hWz
      have hn100 : ws.length + 1 ≤ 101 := by omega
      generalize ws.length + 1 = n at hWl SW hn100 ⊢
      have mz : Mod (fun _ => False) w wz := m0.trans hm2 (fun i hi e => by omega)
      have kz : Blk wz w.heap.size zeroC.cells 23 := kr.later hm2 (Nat.not_le.2 kr.lt)
      have HSW := Lib.hid SW
      have HWZ := Lib.hid hWz
      clear SW hWz hown hown7 hm7 hat7 hm hm2 HF HW kr m0 hcl hcz hcm hnc hlow
      by_cases h7 : n < 7
      · have HRD := Lib.hid (HRN.out (fun h => by have := h.1; omega))
        obtain ⟨r0, r1, r2, r3, r4, r5, r6, r7, r8⟩ := cells9 (c := zeroC) kz
        have lr := kz.lt
        have z0 := kz.fz 0
        have z1 := kz.fz 1
        have z2 := kz.fz 2
        have z3 := kz.fz 3
        have z4 := kz.fz 4
        have z5 := kz.fz 5
        have z6 := kz.fz 6
        have z7 := kz.fz 7
        have z8 := kz.fz 8
        dsimp only [zeroC] at r0 r1 r2 r3 r4 r5 r6 r7 r8
        go_wp2
        have kf := put9_blk (d := zeroC) (c := zeroC) kz
        have mf := put9_mod mz (b := w.heap.size) (Or.inr (Nat.le_refl _)) zeroC
        change bodyPost _ _ _ _ _ (put9 _ w.heap.size zeroC)
        generalize put9 _ w.heap.size zeroC = wf at kf mf ⊢
        obtain ⟨t0, t1, t2, t3, t4, t5, t6, t7, t8⟩ := cells9 kf
        exact bodyPost_ret (v := .tuple #[.agg (zeroC).cells, .int .i64 2]) (by simp [results, Tryd.results18, go_sem, t0, t1, t2, t3, t4, t5, t6, t7, t8, Cfg.cells]) rfl ⟨by rw [HRD.out], mf⟩
      · have h7' : 7 ≤ n := by omega
        have kn0 := Blk.made wz (numCells [0, 0, 0, 0, 0, 0, 0]) 51
        have kz1 := kz.alloc (.cells (numCells [0, 0, 0, 0, 0, 0, 0]) 51)
        have mz1 := mz.alloc (.cells (numCells [0, 0, 0, 0, 0, 0, 0]) 51)
        have ma1 := (Mod.refl (fun _ => False) wz).alloc (.cells (numCells [0, 0, 0, 0, 0, 0, 0]) 51)
        have HS1 := Lib.hid (HSW.out.later ma1 (by simp))
        have hgz : g < wz.heap.size := by
          obtain ⟨B, off, e, hB, -⟩ := HSW.out.at 0 (by omega)
          cases e
          exact hB
        simp only [numCells, List.map_cons, List.map_nil] at kn0 kz1 mz1 HS1
        go_wp2_with fail
        generalize wz.alloc (.cells #[.int .i64 0, .int .i64 0, .int .i64 0, .int .i64 0, .int .i64 0, .int .i64 0, .int .i64 0] 51) = wn at kn0 kz1 mz1 HS1 ⊢
        go_loopw [8] (fun i wr => ∃ (k : Nat) (xs : List Int), k ≤ 7 ∧ i = .int .i64 k ∧ xs.length = 7 ∧ (∀ j, j < k → numR (W.getD j []) = xs[j]?) ∧ Blk wr wz.heap.size (numCells xs) 51 ∧ Mod (fun g => g = wz.heap.size) wn wr) (fun i _ => 7 - (intOf i).toNat)
        case atStart => exact ⟨0, [0, 0, 0, 0, 0, 0, 0], by omega, by simp, rfl, fun j hj => absurd hj (by omega), kn0, Mod.refl _ _⟩
        case round =>
          obtain ⟨k, xs, hk, rfl, hxl, hxs, kN, hmN⟩ := hrel
          obtain ⟨wB, rfl⟩ : ∃ wo : World, wo = wr := ⟨_, rfl⟩
          have SB := Lib.hid (HS1.out.later hmN (fun a n c e => by simp only [Value.slice.injEq, Option.some.injEq] at e; rw [← e.1]; show ¬ g = _; omega))
          have hzs := kz.lt
          have kB := kz1.later hmN (by omega)
          have mB := mz1.trans hmN (fun i hi e => by have := mz.size; omega)
          have HXL := Lib.hid hxl
          have HXS := Lib.hid hxs
          clear hxl hxs
          by_cases hlt : k < 7
          · obtain ⟨x, hx⟩ : ∃ x, W.getD k [] = x := ⟨_, rfl⟩
            have hxW : W[k]? = some x := by
              rw [← hx, List.getD_eq_getElem?_getD, List.getElem?_eq_getElem (by omega)]
              rfl
            have hcell : wB.cell? ⟨g, k, none⟩ = some (.string (mkS x)) := by
              obtain ⟨B, off, e, -, hc⟩ := SB.out.at k (by omega)
              cases e
              rw [Nat.zero_add] at hc
              rw [hc, List.getD_eq_getElem?_getD, List.getElem?_map, hxW]
              rfl
            have hxz : (mkS x).size ≤ 1000 := Nat.le_trans (HWZ.out x (List.mem_of_getElem? hxW)) (by omega)
            have HX := Lib.hid hx
            have b0 : (0 : Int) ≤ (k : Int) := by omega
            have b1 : (k : Int) < 7 := by omega
            have b2 : (k : Int) < (n : Int) := by omega
            clear hx hxW
            go_wp2_with fail
            refine (ref_Number (mkS x) hxz _).mono ?_
            rintro e wC ⟨⟨v, rfl, hv⟩, mC⟩
            have hv' : ∀ u, numR x = some u → v = u := hv
            have e0 : numR (mkS x).data.toList = numR x := rfl
            rw [e0]
            clear hv e0
            have kC := kB.later mC (by simp)
            have mCC := mB.trans mC (by simp)
            cases hnum : numR x with
            | none =>
              have HRD := Lib.hid (HRN.out (fun h => by obtain ⟨y, hy⟩ := h.2 k hlt; rw [HX.out, hnum] at hy; cases hy))
              clear hv' hnum hcell
              obtain ⟨r0, r1, r2, r3, r4, r5, r6, r7, r8⟩ := cells9 (c := zeroC) kC
              have lr := kC.lt
              have z0 := kC.fz 0
              have z1 := kC.fz 1
              have z2 := kC.fz 2
              have z3 := kC.fz 3
              have z4 := kC.fz 4
              have z5 := kC.fz 5
              have z6 := kC.fz 6
              have z7 := kC.fz 7
              have z8 := kC.fz 8
              dsimp only [zeroC] at r0 r1 r2 r3 r4 r5 r6 r7 r8
              go_wp2
              have kf := put9_blk (d := zeroC) (c := zeroC) kC
              have mf := put9_mod mCC (b := w.heap.size) (Or.inr (Nat.le_refl _)) zeroC
              change bodyPost _ _ _ _ _ (put9 _ w.heap.size zeroC)
              generalize put9 _ w.heap.size zeroC = wf at kf mf ⊢
              obtain ⟨t0, t1, t2, t3, t4, t5, t6, t7, t8⟩ := cells9 kf
              exact bodyPost_ret (v := .tuple #[.agg (zeroC).cells, .int .i64 2]) (by simp [results, Tryd.results18, go_sem, t0, t1, t2, t3, t4, t5, t6, t7, t8, Cfg.cells]) rfl ⟨by rw [HRD.out], mf⟩

            | some u =>
              obtain rfl := hv' u hnum
              have HNUM := Lib.hid hnum
              have kN2 := kN.later mC (by simp)
              obtain ⟨y0, hy0⟩ : ∃ y0, (numCells xs)[k]? = some (.int .i64 y0) := ⟨xs[k]'(by have := HXL.out; omega), by simp [numCells, HXL.out, hlt]⟩
              have y := kN2.cell k
              rw [hy0] at y
              have zk := kN2.fz k
              have ln := kN2.lt
              clear hv' hnum hcell
              go_wp2_with fail
              have kN3 := kN2.set k (.int .i64 v)
              have mN3 := (hmN.trans (S := fun g => g = wz.heap.size) (mC.mono (fun g _ (h : False) => h.elim)) (fun i hi e => e)).setCell (p := ⟨wz.heap.size, k, none⟩) (Or.inl rfl) (.int .i64 v)
              have e3 : (numCells xs).setIfInBounds k (.int .i64 v) = numCells (xs.set k v) := by simp [numCells, List.map_set]
              rw [e3] at kN3
              go_roundw
              case rel => exact ⟨k + 1, xs.set k v, by omega, by go_num, by rw [List.length_set]; exact HXL.out, fun j hj => by
                by_cases e : j = k
                · subst e
                  rw [HX.out, HNUM.out, List.getElem?_set_self (by have := HXL.out; omega)]
                · rw [List.getElem?_set_ne (Ne.symm e), HXS.out j (by omega)], kN3, mN3⟩
              case measure => simp [intOf]; omega
          · obtain rfl : k = 7 := by omega
            have hok : OkR W := ⟨by omega, fun j hj => ⟨_, (HXS.out j hj).trans (List.getElem?_eq_getElem (by rw [HXL.out]; exact hj))⟩⟩
            have hnums := numsR_is (W := W) HXL.out HXS.out
            obtain ⟨x0, x1, x2, x3, x4, x5, x6, rfl⟩ := list7 HXL.out
            have HR := Lib.hid (HRY.out hok)
            have HWF := Lib.hid (mkR_wf hok)
            have HNU := Lib.hid hnums
            clear hok hnums HXS HXL hlt
            obtain ⟨n0, n1, n2, n3, n4, n5, n6⟩ : wB.cell? ⟨wz.heap.size, 0, none⟩ = some (.int .i64 x0) ∧ wB.cell? ⟨wz.heap.size, 1, none⟩ = some (.int .i64 x1) ∧ wB.cell? ⟨wz.heap.size, 2, none⟩ = some (.int .i64 x2) ∧ wB.cell? ⟨wz.heap.size, 3, none⟩ = some (.int .i64 x3) ∧ wB.cell? ⟨wz.heap.size, 4, none⟩ = some (.int .i64 x4) ∧ wB.cell? ⟨wz.heap.size, 5, none⟩ = some (.int .i64 x5) ∧ wB.cell? ⟨wz.heap.size, 6, none⟩ = some (.int .i64 x6) := ⟨kN.cell 0, kN.cell 1, kN.cell 2, kN.cell 3, kN.cell 4, kN.cell 5, kN.cell 6⟩
            have kc0 := Blk.made wB (⟨x0, x1, x2, x3, x4, x5, x6, false, false⟩ : Cfg).cells 23
            have kr5 := kB.alloc (.cells (⟨x0, x1, x2, x3, x4, x5, x6, false, false⟩ : Cfg).cells 23)
            have mr5 := mB.alloc (.cells (⟨x0, x1, x2, x3, x4, x5, x6, false, false⟩ : Cfg).cells 23)
            have ma5 := (Mod.refl (fun _ => False) wB).alloc (.cells (⟨x0, x1, x2, x3, x4, x5, x6, false, false⟩ : Cfg).cells 23)
            have S5 := Lib.hid (SB.out.later ma5 (by simp))
            have hgB : g < wB.heap.size := by
              obtain ⟨B, off, e, hB, -⟩ := SB.out.at 0 (by omega)
              cases e
              exact hB
            have hrB := kB.lt
            have hsB := mB.size
            simp only [Cfg.cells] at kc0 kr5 mr5 S5
            go_wp2_with fail
            generalize wB.alloc (.cells #[.int .i64 x0, .int .i64 x1, .int .i64 x2, .int .i64 x3, .int .i64 x4, .int .i64 x5, .int .i64 x6, .bool false, .bool false] 23) = wc0 at kc0 kr5 mr5 S5 ⊢
            clear n0 n1 n2 n3 n4 n5 n6 kN hmN SB kB mB ma5
            go_loopw [12] (fun i wr => ∃ (k : Nat) (we ca : Bool), 7 ≤ k ∧ k ≤ n ∧ i = .int .i64 k ∧ we = decide (westL ∈ (W.take k).drop 7) ∧ ca = decide (castL ∈ (W.take k).drop 7) ∧ Blk wr wB.heap.size (⟨x0, x1, x2, x3, x4, x5, x6, we, ca⟩ : Cfg).cells 23 ∧ Mod (fun g => g = wB.heap.size) wc0 wr) (fun i _ => n - (intOf i).toNat)
            case atStart => exact ⟨7, false, false, by omega, by omega, by simp, by simp, by simp, kc0, Mod.refl _ _⟩
            case round =>
              obtain ⟨k, we, ca, hk7, hkn, rfl, hwe, hca, kC, hmC⟩ := hrel
              obtain ⟨wD, rfl⟩ : ∃ wo : World, wo = wr := ⟨_, rfl⟩
              have SD := Lib.hid (S5.out.later hmC (fun a n c e => by simp only [Value.slice.injEq, Option.some.injEq] at e; rw [← e.1]; show ¬ g = _; omega))
              have kD := kr5.later hmC (by omega)
              have mD := mr5.trans hmC (fun i hi e => by omega)
              have HWE := Lib.hid hwe
              have HCA := Lib.hid hca
              clear hwe hca
              by_cases hlt : k < n
              · obtain ⟨x, hxW⟩ : ∃ x, W[k]? = some x := ⟨_, List.getElem?_eq_getElem (by omega)⟩
                have hcell : wD.cell? ⟨g, k, none⟩ = some (.string (mkS x)) := by
                  obtain ⟨B, off, e, -, hc⟩ := SD.out.at k (by omega)
                  cases e
                  rw [Nat.zero_add] at hc
                  rw [hc, List.getD_eq_getElem?_getD, List.getElem?_map, hxW]
                  rfl
                have htk : (W.take (k + 1)).drop 7 = (W.take k).drop 7 ++ [x] := by
                  rw [List.take_add_one, hxW, List.drop_append_of_le_length (by simp; omega)]
                  rfl
                have hw2 : decide (westL ∈ (W.take (k + 1)).drop 7) = (we || (x == [119, 101, 115, 116])) := by
                  rw [htk, HWE.out]
                  exact mem_snoc_dec _ _ _
                have hc2 : decide (castL ∈ (W.take (k + 1)).drop 7) = (ca || (x == [99, 97, 115, 116])) := by
                  rw [htk, HCA.out]
                  exact mem_snoc_dec _ _ _
                obtain ⟨q1, hq1⟩ : ∃ q1, (x == [119, 101, 115, 116]) = q1 := ⟨_, rfl⟩
                obtain ⟨q2, hq2⟩ : ∃ q2, (x == [99, 97, 115, 116]) = q2 := ⟨_, rfl⟩
                rw [hq1] at hw2
                rw [hq2] at hc2
                have HW2 := Lib.hid hw2
                have HC2 := Lib.hid hc2
                have b0 : (0 : Int) ≤ (k : Int) := by omega
                have b2 : (k : Int) < (n : Int) := by omega
                have d7 := kC.cell 7
                have d8 := kC.cell 8
                have z7 := kC.fz 7
                have z8 := kC.fz 8
                have lc := kC.lt
                simp only [Cfg.cells] at d7 d8
                clear hw2 hc2 hxW htk HWE HCA
                cases we <;> cases ca
                all_goals
                  go_wp2_with fail
                  go_roundw
                  case rel =>
                    refine ⟨k + 1, _, _, by omega, by omega, by go_num, HW2.out.symm, HC2.out.symm, ?_, ?_⟩
                    · first
                        | exact (kC.set 7 (.bool q1)).set 8 (.bool q2)
                        | exact (kC.set 7 (.bool q1)).set 8 (.bool true)
                        | exact (kC.set 7 (.bool true)).set 8 (.bool q2)
                        | exact (kC.set 7 (.bool true)).set 8 (.bool true)
                    · exact (hmC.setCell (p := ⟨wB.heap.size, 7, none⟩) (Or.inl rfl) _).setCell (p := ⟨wB.heap.size, 8, none⟩) (Or.inl rfl) _
                  case measure => simp [intOf]; omega
              · obtain rfl : k = n := by omega
                have hmk : mkR (numsR W) W = ⟨x0, x1, x2, x3, x4, x5, x6, we, ca⟩ := by
                  have e1 := HWE.out
                  have e2 := HCA.out
                  rw [List.take_of_length_le (by omega)] at e1 e2
                  unfold mkR
                  rw [HNU.out, ← e1, ← e2]
                  rfl
                have hR := HR.out
                have hwf := HWF.out
                rw [hmk] at hR hwf
                have HR2 := Lib.hid hR
                clear hmk hR HWE HCA HR HWF HNU
                obtain ⟨c0, c1, c2, c3, c4, c5, c6, c7, c8⟩ := cells9 kC
                dsimp only at c0 c1 c2 c3 c4 c5 c6 c7 c8
                go_wp2_with fail
                refine (ref_Text (⟨x0, x1, x2, x3, x4, x5, x6, we, ca⟩ : Cfg) hwf _).mono ?_
                rintro e wE ⟨rfl, mE⟩
                have kE := kC.later mE (by simp)
                have krE := kD.later mE (by simp)
                have mmE := mD.trans mE (by simp)
                clear kC kD mD mE hmC c0 c1 c2 c3 c4 c5 c6 c7 c8 SD
                obtain ⟨c0, c1, c2, c3, c4, c5, c6, c7, c8⟩ := cells9 kE
                dsimp only at c0 c1 c2 c3 c4 c5 c6 c7 c8
                have hsl : s.toList = l := by rw [ByteArray.toList_eq]; exact HS.out
                obtain ⟨tt, htt⟩ : ∃ tt, (⟨x0, x1, x2, x3, x4, x5, x6, we, ca⟩ : Cfg).txt = tt := ⟨_, rfl⟩
                rw [htt]
                by_cases ht : tt = l
                · have hq : (tt == s.toList) = true := by rw [hsl, ht]; exact beq_self_eq_true _
                  have hq2 : (!tt == s.toList) = false := by rw [hq]; rfl
                  have hE : endC (⟨x0, x1, x2, x3, x4, x5, x6, we, ca⟩ : Cfg) s = if (⟨x0, x1, x2, x3, x4, x5, x6, we, ca⟩ : Cfg).chk = 0 then ((⟨x0, x1, x2, x3, x4, x5, x6, we, ca⟩ : Cfg), 0) else (zeroC, (⟨x0, x1, x2, x3, x4, x5, x6, we, ca⟩ : Cfg).chk) := by
                    unfold endC
                    rw [if_pos (by rw [htt, ht]; exact HS.out.symm)]
                  have HE := Lib.hid hE
                  clear hE ht hsl htt
                  go_wp2_with fail
                  refine (ref_Check (⟨x0, x1, x2, x3, x4, x5, x6, we, ca⟩ : Cfg) _).mono ?_
                  rintro e wF ⟨rfl, mF⟩
                  have kF := kE.later mF (by simp)
                  have krF := krE.later mF (by simp)
                  have mmF := mmE.trans mF (by simp)
                  clear kE krE mmE mF c0 c1 c2 c3 c4 c5 c6 c7 c8
                  obtain ⟨c0, c1, c2, c3, c4, c5, c6, c7, c8⟩ := cells9 kF
                  dsimp only at c0 c1 c2 c3 c4 c5 c6 c7 c8
                  by_cases hk : (⟨x0, x1, x2, x3, x4, x5, x6, we, ca⟩ : Cfg).chk = 0
                  · have hrd : rr s = ((⟨x0, x1, x2, x3, x4, x5, x6, we, ca⟩ : Cfg), 0) := by rw [HR2.out, HE.out, if_pos hk]
                    have HRD := Lib.hid hrd
                    rw [hk]
                    clear hrd hk
                    obtain ⟨r0, r1, r2, r3, r4, r5, r6, r7, r8⟩ := cells9 (c := zeroC) krF
                    have lr := krF.lt
                    have z0 := krF.fz 0
                    have z1 := krF.fz 1
                    have z2 := krF.fz 2
                    have z3 := krF.fz 3
                    have z4 := krF.fz 4
                    have z5 := krF.fz 5
                    have z6 := krF.fz 6
                    have z7 := krF.fz 7
                    have z8 := krF.fz 8
                    dsimp only [zeroC] at r0 r1 r2 r3 r4 r5 r6 r7 r8
                    go_wp2
                    have kf := put9_blk (d := (⟨x0, x1, x2, x3, x4, x5, x6, we, ca⟩ : Cfg)) (c := zeroC) krF
                    have mf := put9_mod mmF (b := w.heap.size) (Or.inr (Nat.le_refl _)) (⟨x0, x1, x2, x3, x4, x5, x6, we, ca⟩ : Cfg)
                    change bodyPost _ _ _ _ _ (put9 _ w.heap.size (⟨x0, x1, x2, x3, x4, x5, x6, we, ca⟩ : Cfg))
                    generalize put9 _ w.heap.size (⟨x0, x1, x2, x3, x4, x5, x6, we, ca⟩ : Cfg) = wf at kf mf ⊢
                    obtain ⟨t0, t1, t2, t3, t4, t5, t6, t7, t8⟩ := cells9 kf
                    exact bodyPost_ret (v := .tuple #[.agg (⟨x0, x1, x2, x3, x4, x5, x6, we, ca⟩ : Cfg).cells, .int .i64 0]) (by simp [results, Tryd.results18, go_sem, t0, t1, t2, t3, t4, t5, t6, t7, t8, Cfg.cells]) rfl ⟨by rw [HRD.out], mf⟩

                  · have hrd : rr s = (zeroC, (⟨x0, x1, x2, x3, x4, x5, x6, we, ca⟩ : Cfg).chk) := by rw [HR2.out, HE.out, if_neg hk]
                    have HRD := Lib.hid hrd
                    have hk2 : ((⟨x0, x1, x2, x3, x4, x5, x6, we, ca⟩ : Cfg).chk != 0) = true := by simp [hk]
                    have hk3 : ((⟨x0, x1, x2, x3, x4, x5, x6, we, ca⟩ : Cfg).chk == 0) = false := by simp [hk]
                    clear HE
                    generalize (⟨x0, x1, x2, x3, x4, x5, x6, we, ca⟩ : Cfg).chk = E at HRD hk hk2 hk3 ⊢
                    clear hrd hk
                    obtain ⟨r0, r1, r2, r3, r4, r5, r6, r7, r8⟩ := cells9 (c := zeroC) krF
                    have lr := krF.lt
                    have z0 := krF.fz 0
                    have z1 := krF.fz 1
                    have z2 := krF.fz 2
                    have z3 := krF.fz 3
                    have z4 := krF.fz 4
                    have z5 := krF.fz 5
                    have z6 := krF.fz 6
                    have z7 := krF.fz 7
                    have z8 := krF.fz 8
                    dsimp only [zeroC] at r0 r1 r2 r3 r4 r5 r6 r7 r8
                    go_wp2
                    have kf := put9_blk (d := zeroC) (c := zeroC) krF
                    have mf := put9_mod mmF (b := w.heap.size) (Or.inr (Nat.le_refl _)) zeroC
                    change bodyPost _ _ _ _ _ (put9 _ w.heap.size zeroC)
                    generalize put9 _ w.heap.size zeroC = wf at kf mf ⊢
                    obtain ⟨t0, t1, t2, t3, t4, t5, t6, t7, t8⟩ := cells9 kf
                    exact bodyPost_ret (v := .tuple #[.agg (zeroC).cells, .int .i64 E]) (by simp [results, Tryd.results18, go_sem, t0, t1, t2, t3, t4, t5, t6, t7, t8, Cfg.cells]) rfl ⟨by rw [HRD.out], mf⟩

                · have hq : (tt == s.toList) = false := by rw [hsl]; exact beq_eq_false_iff_ne.2 ht
                  have hq2 : (!tt == s.toList) = true := by rw [hq]; rfl
                  have hrd : rr s = (zeroC, 2) := by
                    rw [HR2.out]
                    unfold endC
                    rw [if_neg (by rw [htt, HS.out]; exact ht)]
                  have HRD := Lib.hid hrd
                  clear hrd ht hsl htt
                  obtain ⟨r0, r1, r2, r3, r4, r5, r6, r7, r8⟩ := cells9 (c := zeroC) krE
                  have lr := krE.lt
                  have z0 := krE.fz 0
                  have z1 := krE.fz 1
                  have z2 := krE.fz 2
                  have z3 := krE.fz 3
                  have z4 := krE.fz 4
                  have z5 := krE.fz 5
                  have z6 := krE.fz 6
                  have z7 := krE.fz 7
                  have z8 := krE.fz 8
                  dsimp only [zeroC] at r0 r1 r2 r3 r4 r5 r6 r7 r8
                  go_wp2
                  have kf := put9_blk (d := zeroC) (c := zeroC) krE
                  have mf := put9_mod mmE (b := w.heap.size) (Or.inr (Nat.le_refl _)) zeroC
                  change bodyPost _ _ _ _ _ (put9 _ w.heap.size zeroC)
                  generalize put9 _ w.heap.size zeroC = wf at kf mf ⊢
                  obtain ⟨t0, t1, t2, t3, t4, t5, t6, t7, t8⟩ := cells9 kf
                  exact bodyPost_ret (v := .tuple #[.agg (zeroC).cells, .int .i64 2]) (by simp [results, Tryd.results18, go_sem, t0, t1, t2, t3, t4, t5, t6, t7, t8, Cfg.cells]) rfl ⟨by rw [HRD.out], mf⟩

end Go.Proofs.YthmohnoloonfoaaDoor
