/- config.Read: the config of a text. -/
import Derived.Test.YthmohnoloonfoaaDoorCfgNums
import Derived.Test.YthmohnoloonfoaaDoorPut9
namespace Go.Proofs.YthmohnoloonfoaaDoor
open Go.RowKit

def xB : ByteArray := ⟨#[120]⟩
def spB : ByteArray := ⟨#[32]⟩
def westB : ByteArray := ⟨#[119, 101, 115, 116]⟩
def castB : ByteArray := ⟨#[99, 97, 115, 116]⟩
def restB (s : ByteArray) : ByteArray := mkS (Lib.cut s.data.toList [120]).2.1
def wordsB (s : ByteArray) : List ByteArray := mkS (Lib.cut s.data.toList [120]).1 :: Lib.splitB spB 0 (Lib.countB (restB s) spB) (restB s)

def mkCfg (xs : List Int) (ws : List ByteArray) : Cfg := ⟨xs.getD 0 0, xs.getD 1 0, xs.getD 2 0, xs.getD 3 0, xs.getD 4 0, xs.getD 5 0, xs.getD 6 0, Lib.containsS (ws.drop 7) westB, Lib.containsS (ws.drop 7) castB⟩
def zeroC : Cfg := ⟨0, 0, 0, 0, 0, 0, 0, false, false⟩
def endC (c : Cfg) (s : ByteArray) : Cfg × Int := if c.txt = s.data.toList then (if c.chk = 0 then (c, 0) else (zeroC, c.chk)) else (zeroC, 2)
def NumsOk (ws : List ByteArray) : Prop := 7 ≤ ws.length ∧ ∀ j, j < 7 → ∃ y, numAt ws j = some y
noncomputable def numsOf (ws : List ByteArray) : List Int := (List.range 7).map fun j => (numAt ws j).getD 0
open Classical in
noncomputable def rd (s : ByteArray) : Cfg × Int := if NumsOk (wordsB s) then endC (mkCfg (numsOf (wordsB s)) (wordsB s)) s else (zeroC, 2)

theorem run_Contains (v : Value) (xs : List ByteArray) (x : ByteArray) (w : World) (h : SlV w v (xs.map Value.string)) :
    Calls Tryd.prog 28 #[v, .string x] w fun e w' => e = .returned (.bool (Lib.containsS xs x)) ∧ w = w' := by
  obtain ⟨a, n, c, rfl, hn, hc, hm, hcell⟩ := h
  rw [List.length_map] at hn
  unfold maxLen at hm
  rcases hcell with h0 | ⟨B, off, rfl, hB, hcell⟩
  · obtain rfl : xs = [] := by simpa using h0
    obtain rfl : n = 0 := by simpa using hn.symm
    refine (Tryd.slices_Contains_string_empty a c x w).mono ?_
    rintro e w' ⟨he, rfl⟩
    exact ⟨he, rfl⟩
  · have := Tryd.slices_Contains_string B off n c xs x w (by omega) (by omega) (fun j hj => by
      rw [hcell j (by simpa using hj), strs_getD hj])
    rw [List.take_of_length_le (by omega)] at this
    refine this.mono ?_
    rintro e w' ⟨he, rfl⟩
    exact ⟨he, rfl⟩

theorem splitB_len (sep : ByteArray) (h1 : 1 ≤ sep.size) : ∀ (n : Nat) (s : ByteArray), Lib.countB s sep = n → (Lib.splitB sep 0 n s).length = n + 1
  | 0, s, _ => rfl
  | n + 1, s, h => by
    rcases Lib.indexB_cases s sep with hi | ⟨i, hi, -⟩
    · rw [Lib.countB_miss s sep hi] at h
      omega
    · rw [Lib.countB_hit s sep i h1 hi] at h
      rw [Lib.splitB_hit sep 0 n s i hi, List.length_cons, splitB_len sep h1 n _ (by omega)]
theorem splitB_size (sep : ByteArray) : ∀ (n : Nat) (s : ByteArray), ∀ x ∈ Lib.splitB sep 0 n s, x.size ≤ s.size
  | 0, s, x, h => by
    simp [Lib.splitB] at h
    subst h
    exact Nat.le_refl _
  | n + 1, s, x, h => by
    unfold Lib.splitB at h
    split at h
    · simp at h
      subst h
      exact Nat.le_refl _
    · simp only [List.mem_cons] at h
      rcases h with rfl | h
      · simp
        omega
      · have := splitB_size sep n _ x h
        simp at this
        omega
theorem cut_size (l sep : List UInt8) : (Lib.cut l sep).1.length ≤ l.length ∧ (Lib.cut l sep).2.1.length ≤ l.length := by
  unfold Lib.cut
  split
  · simp
    omega
  · simp

theorem SlV.drop7 {w : World} {g n cap : Nat} {xs : List Value} (h : SlV w (.slice (some ⟨g, 0, none⟩) n cap) xs) (h7 : 7 ≤ n) (h8 : 7 < cap) : SlV w (.slice (some ⟨g, 7, none⟩) (n - 7) (cap - 7)) (xs.drop 7) := by
  obtain ⟨a', n', c', hv, hn, hc, hm, hcell⟩ := h
  simp only [Value.slice.injEq] at hv
  obtain ⟨rfl, rfl, rfl⟩ := hv
  refine ⟨_, _, _, rfl, by simp [hn], by omega, by omega, ?_⟩
  rcases hcell with h0 | ⟨B, off, ha, hB, hcell⟩
  · rw [h0] at hn; simp at hn; omega
  · simp only [Option.some.injEq, Addr.mk.injEq] at ha
    obtain ⟨rfl, rfl, -⟩ := ha
    refine Or.inr ⟨g, 7, rfl, hB, fun j hj => ?_⟩
    have := hcell (7 + j) (by simp at hj; omega)
    rw [Nat.zero_add] at this
    rw [this]
    simp [List.getD_eq_getElem?_getD]

theorem bytes_inj2 {a b : ByteArray} (h : a.toList = b.toList) : a = b := by
  rw [ByteArray.toList_eq, ByteArray.toList_eq] at h
  exact WideShapes.bytes_inj h

theorem list7 {xs : List Int} (h : xs.length = 7) : ∃ a b c d e f g, xs = [a, b, c, d, e, f, g] := by
  match xs, h with
  | [a, b, c, d, e, f, g], _ => exact ⟨a, b, c, d, e, f, g, rfl⟩

theorem numsOf_is {ws : List ByteArray} {xs : List Int} (hl : xs.length = 7) (h : ∀ j, j < 7 → numAt ws j = xs[j]?) : numsOf ws = xs := by
  unfold numsOf
  apply List.ext_getElem (by simp [hl])
  intro j h1 h2
  have hj : j < 7 := by simpa using h1
  simp [h j hj, h2]
theorem rd_no {s : ByteArray} (h : ¬ NumsOk (wordsB s)) : rd s = (zeroC, 2) := by unfold rd; rw [if_neg h]
theorem rd_yes {s : ByteArray} (h : NumsOk (wordsB s)) : rd s = endC (mkCfg (numsOf (wordsB s)) (wordsB s)) s := by unfold rd; rw [if_pos h]

theorem numOk_wf {x : List UInt8} {v : Int} (h : numOk x = some v) : (Lit.int .i64 v).wf = true := by
  unfold numOk at h
  split at h
  · rename_i u hu
    split at h
    · cases h
      have hb := Lib.atoiAll_bounds hu
      simp [Lit.wf, IntKind.min, IntKind.max, IntKind.signed, IntKind.bits]
      omega
    · cases h
  · cases h

set_option maxRecDepth 100000 in
set_option maxHeartbeats 1600000 in
theorem run_Read (s : ByteArray) (hs : s.size ≤ 1000000) (w : World) (L : LibV w) (hw : 8 ≤ w.heap.size) :
    Calls Tryd.prog 17 #[.string s] w fun e w' => e = .returned (.tuple #[.agg (rd s).1.cells, .int .i64 (rd s).2]) ∧ Mod (fun _ => False) w w' := by
  have kr := (Blk.made w (cfgCells [0, 0, 0, 0, 0, 0, 0]) 23).alloc (.cells (cfgCells [0, 0, 0, 0, 0, 0, 0]) 23)
  have kX := Blk.made (w.alloc (.cells (cfgCells [0, 0, 0, 0, 0, 0, 0]) 23)) (cfgCells [0, 0, 0, 0, 0, 0, 0]) 23
  have m0 : Mod (fun _ => False) w ((w.alloc (.cells (cfgCells [0, 0, 0, 0, 0, 0, 0]) 23)).alloc (.cells (cfgCells [0, 0, 0, 0, 0, 0, 0]) 23)) := ((Mod.refl _ _).alloc _).alloc _
  simp only [World.size_alloc] at kX
  have HL := Lib.hid L
  clear L
  simp only [cfgCells, List.map_cons, List.map_nil, List.cons_append, List.nil_append] at kr kX m0
  go_enter Tryd.func17, Tryd.ntmps17
  go_wp2_with fail
  generalize ((w.alloc (.cells #[.int .i64 0, .int .i64 0, .int .i64 0, .int .i64 0, .int .i64 0, .int .i64 0, .int .i64 0, .bool false, .bool false] 23)).alloc (.cells #[.int .i64 0, .int .i64 0, .int .i64 0, .int .i64 0, .int .i64 0, .int .i64 0, .int .i64 0, .bool false, .bool false] 23)) = w1 at kr kX m0 ⊢
  refine (run_Cut s ⟨#[120]⟩ _ (HL.out.later0 m0) (by omega)).mono ?_
  rintro e w2 ⟨rfl, m2⟩
  have mm2 := m0.trans m2 (by simp)
  have kr2 := kr.later m2 (by simp)
  have kX2 := kX.later m2 (by simp)
  have hcb : (mkS (Lib.cut s.data.toList [120]).1).size ≤ 1000000 ∧ (restB s).size ≤ 1000000 := by
    have h := cut_size s.data.toList [120]
    have e : s.data.toList.length = s.size := rfl
    exact ⟨Nat.le_trans h.1 (by omega), Nat.le_trans h.2 (by omega)⟩
  obtain ⟨fst, hfst⟩ : ∃ fst, mkS (Lib.cut s.data.toList (ByteArray.data ⟨#[120]⟩).toList).1 = fst := ⟨_, rfl⟩
  obtain ⟨rst, hrst⟩ : ∃ rst, mkS (Lib.cut s.data.toList (ByteArray.data ⟨#[120]⟩).toList).2.1 = rst := ⟨_, rfl⟩
  rw [hfst, hrst]
  have hwords : wordsB s = fst :: Lib.splitB spB 0 (Lib.countB rst spB) rst := by rw [← hfst, ← hrst]; rfl
  have hcb2 : fst.size ≤ 1000000 ∧ rst.size ≤ 1000000 := by rw [← hfst, ← hrst]; exact hcb
  have HWO := Lib.hid hwords
  obtain ⟨hb1, hb2⟩ := hcb2
  clear hfst hrst hwords hcb m0 m2 kr kX
  have L2 := Lib.hid (HL.out.later0 mm2)
  have mal := (Mod.refl (fun _ => False) w2).alloc (.cells #[.string fst] 9)
  go_wp2_with fail
  refine (run_Split rst ⟨#[32]⟩ _ (L2.out.later0 mal) (by omega) (by decide)).mono ?_
  rintro e w3 ⟨rfl, rfl⟩
  obtain ⟨SP, hSP⟩ : ∃ SP, Lib.splitB ⟨#[32]⟩ 0 (Lib.countB rst ⟨#[32]⟩) rst = SP := ⟨_, rfl⟩
  have hspl : SP.length = Lib.countB rst ⟨#[32]⟩ + 1 := by rw [← hSP]; exact splitB_len _ (by decide) _ _ rfl
  have hsps : ∀ x ∈ SP, x.size ≤ 1000000 := fun x hx => Nat.le_trans (splitB_size _ _ _ x (by rw [← hSP] at hx; exact hx)) hb2
  have hcnt : Lib.countB rst ⟨#[32]⟩ ≤ 1000001 := by
    have := Lib.count_le rst.data.toList [32]
    have e : rst.data.toList.length = rst.size := rfl
    have e2 : Lib.countB rst ⟨#[32]⟩ = Lib.count rst.data.toList [32] := rfl
    omega
  have hws : wordsB s = fst :: SP := by rw [HWO.out, ← hSP]; rfl
  obtain ⟨m, hm⟩ : ∃ m, Lib.countB rst ⟨#[32]⟩ + 1 = m := ⟨_, rfl⟩
  rw [hSP, hm]
  rw [hm] at hspl
  have hm2 : m ≤ 1000002 := by omega
  have kS := Blk.made (w2.alloc (.cells #[.string fst] 9)) ((SP.map Value.string).toArray) 9
  have mal2 := mal.alloc (.cells ((SP.map Value.string).toArray) 9)
  have hown0 : ((w2.alloc (.cells #[.string fst] 9)).alloc (.cells ((SP.map Value.string).toArray) 9)).ownsRow w2.heap.size 9 1 (.slice (some ⟨w2.heap.size, 0, none⟩) 1 1) 1 [.string fst] :=
    (World.ownsRow_lit (e := 9) (size := 1) w2 #[.string fst] 1 (Nat.le_refl _) (by decide) rfl).alloc _
  have HSPL := Lib.hid hspl
  have HSPS := Lib.hid hsps
  have HWS := Lib.hid hws
  have KS := Lib.hid kS
  obtain ⟨i0, hi, hz0, hz1, hz2⟩ := info_parts info_str
  have hcells : ∀ j u, (SP.map Value.string)[j]? = some u → ((w2.alloc (.cells #[.string fst] 9)).alloc (.cells ((SP.map Value.string).toArray) 9)).cell? ((⟨(w2.alloc (.cells #[.string fst] 9)).heap.size, 0, none⟩ : Addr).add j) = some u := by
    intro j u hj
    have e : (⟨(w2.alloc (.cells #[.string fst] 9)).heap.size, 0, none⟩ : Addr).add j = ⟨(w2.alloc (.cells #[.string fst] 9)).heap.size, j, none⟩ := by
      unfold Addr.add
      split <;> simp_all
    rw [e, KS.out.cell, List.getElem?_toArray]
    exact hj
  have HCE := Lib.hid hcells
  clear hSP hspl hsps hws hm hcnt kS hcells HWO mal
  simp only [World.size_alloc] at HCE ⊢
  generalize (w2.alloc (.cells #[.string fst] 9)).alloc (.cells ((SP.map Value.string).toArray) 9) = w3 at KS mal2 hown0 HCE ⊢
  have hs3 := mal2.size
  have mm3 := mm2.trans mal2 (by simp)
  have kr3 := kr2.later mal2 (by simp)
  have kX3 := kX2.later mal2 (by simp)
  have lX := kX2.lt
  have hlow0 := fun i e => (hown0.lt i e).1
  clear mal2 kr2 kX2 L2 KS mm2
  go_upto_region 4 with (at_builtin; refine wpList_append_own _ rfl _ _ 41 rfl w2.heap.size 9 i0 (.string ⟨#[]⟩) 1 16 Tryd.underlying41 hi hz0 hz1 hz2 rfl (by decide) (.slice (some ⟨w2.heap.size, 0, none⟩) 1 1) 1 [.string fst] rfl hown0 ⟨w2.heap.size + 1, 0, none⟩ m m (SP.map Value.string) rfl (by rw [List.length_map, HSPL.out]; omega) HCE.out (by intro u hu; obtain ⟨x, _, rfl⟩ := List.mem_map.1 hu; rfl) (by unfold maxLen; omega) (by omega) (by omega) ?_; intro v' w4 hown1 hg1 _)
  have m34 : Mod (fun q => q = w2.heap.size) w3 w4 := (Mod.refl _ w3).grown hg1 (fun k hk => Or.inl (by simpa [Value.ownBlock] using hk.symm))
  have hs2 := mm3.size
  have mm4 : Mod (fun _ => False) w w4 := mm3.trans m34 (fun i hi e => by subst e; omega)
  have kX4 := kX3.later m34 (by omega)
  have kr4 := kr3.later m34 (by omega)
  have hws1 : [Value.string fst] ++ SP.map Value.string = (wordsB s).map Value.string := by rw [HWS.out]; rfl
  rw [hws1] at hown1
  have hwl : (wordsB s).length = 1 + m := by rw [HWS.out, List.length_cons, HSPL.out]; omega
  have hwz : ∀ x ∈ wordsB s, x.size ≤ 1000000 := by
    rw [HWS.out]
    intro x hx
    rcases List.mem_cons.1 hx with rfl | hx
    · exact hb1
    · exact HSPS.out x hx
  have hs34 := m34.size
  obtain ⟨g, cap, rfl, -, hgl⟩ := hown1.form (by omega)
  have hglow := (hown1.lt g rfl).1
  have sl4 := SlV.own hown1
  have HSL4 := Lib.hid sl4
  have HWL := Lib.hid hwl
  have HWZ := Lib.hid hwz
  have HNO := Lib.hid (rd_no (s := s))
  have HYES := Lib.hid (rd_yes (s := s))
  generalize wordsB s = ws at HWL HWZ HSL4 hown1 HNO HYES
  have mP := (Mod.refl (fun _ => False) w4).alloc (.cells (ptrs (w.heap.size + 1)) 49)
  have kP : Blk (w4.alloc (.cells (ptrs (w.heap.size + 1)) 49)) w4.heap.size (ptrs (w.heap.size + 1)) 49 := Blk.made _ _ _
  have L5 := Lib.hid ((HL.out.later0 mm4).later0 mP)
  have mm5 := mm4.trans mP (by simp)
  have kX5 := kX4.later mP (by simp)
  have kr5 := kr4.later mP (by simp)
  have HSL5 := Lib.hid (HSL4.out.later mP (by simp))
  clear hi hz0 hz1 hz2 hown0 HCE mm3 hs3 kr3 kX3 m34 hown1 HSL4 kX4 kr4 hg1 HWS HSPS HSPL hlow0 sl4 hwl hwz hws1
  change Blk _ _ (cfgCells [0, 0, 0, 0, 0, 0, 0]) _ at kX5
  change Blk _ _ (cfgCells [0, 0, 0, 0, 0, 0, 0]) _ at kr5
  go_wp2_with fail
  refine (run_numbers _ ws (w.heap.size + 1) w4.heap.size [0, 0, 0, 0, 0, 0, 0] _ L5.out HSL5.out HWZ.out kX5 rfl kP (by omega) (by omega) (fun a n c e => by simp only [Value.slice.injEq, Option.some.injEq] at e; rw [← e.1]; show g ≠ _; omega)).mono ?_
  rintro e w6 ⟨m6, (⟨h7, hall, rfl, xs, hxl, hxs, k6⟩ | ⟨hno, rfl⟩)⟩
  · obtain ⟨x0, x1, x2, x3, x4, x5, x6, rfl⟩ := list7 hxl
    have hnum := numsOf_is (ws := ws) rfl hxs
    obtain ⟨we, hwe⟩ : ∃ b, Lib.containsS (ws.drop 7) westB = b := ⟨_, rfl⟩
    obtain ⟨ca, hca⟩ : ∃ b, Lib.containsS (ws.drop 7) castB = b := ⟨_, rfl⟩
    have hwf : (⟨x0, x1, x2, x3, x4, x5, x6, we, ca⟩ : Cfg).wf := by
      intro n hn
      obtain ⟨j, hj, hjn⟩ := List.getElem_of_mem hn
      have hj7 : j < 7 := by simpa using hj
      have h1 := hxs j hj7
      have h2 : ([x0, x1, x2, x3, x4, x5, x6] : List Int)[j]? = some n := (List.getElem?_eq_getElem hj).trans (by rw [hjn])
      rw [h2] at h1
      exact numOk_wf h1
    have hrd : rd s = endC ⟨x0, x1, x2, x3, x4, x5, x6, we, ca⟩ s := by
      rw [HYES.out ⟨h7, hall⟩, hnum, ← hwe, ← hca]
      rfl
    have HRD0 := Lib.hid hrd
    have HWF := Lib.hid hwf
    have HWE := Lib.hid hwe
    have HCA := Lib.hid hca
    have kr6 := kr5.later m6 (by omega)
    have mm6 := mm5.trans m6 (fun i hi e => by omega)
    have SL6 := Lib.hid (HSL5.out.later m6 (fun a n c e => by simp only [Value.slice.injEq, Option.some.injEq] at e; rw [← e.1]; show ¬ g = _; omega))
    have y7 : w6.cell? ⟨w.heap.size + 1, 7, none⟩ = some (.bool false) := by rw [k6.cell]; rfl
    have y8 : w6.cell? ⟨w.heap.size + 1, 8, none⟩ = some (.bool false) := by rw [k6.cell]; rfl
    have f7 := k6.fz 7
    have f8 := k6.fz 8
    have l6 := k6.lt
    have hcap : 1 + m ≤ cap := by
      obtain ⟨_, _, _, e, _, hc, _⟩ := SL6.out
      simp only [Value.slice.injEq] at e
      omega
    have hcapm : cap ≤ 9223372036854775807 := by
      obtain ⟨_, _, _, e, _, _, hc, _⟩ := SL6.out
      simp only [Value.slice.injEq] at e
      unfold maxLen at hc
      omega
    have hm7 : 7 ≤ 1 + m := by have := HWL.out; omega
    clear hxl hnum hwe hca hwf hrd hall hxs kX5 kP mP L5 HSL5 m6 HNO HYES kr5
    have b7 : (7 : Int) ≤ ((1 + m : Nat) : Int) := by omega
    have b8 : ((1 + m : Nat) : Int) ≤ (cap : Int) := by omega
    go_upto_region 6 with fail
    go_cut [] (fun w' => Blk w' (w.heap.size + 1) (⟨x0, x1, x2, x3, x4, x5, x6, we, ca⟩ : Cfg).cells 23 ∧ Mod (fun q => q = w.heap.size + 1) w6 w')
    case first => as_aux_lemma =>
      by_cases hc7 : cap = 7
      · subst hc7
        obtain rfl : m = 6 := by omega
        have hdr : ws.drop 7 = [] := List.drop_eq_nil_of_le (by rw [HWL.out]; omega)
        have SDd := Lib.hid (show SlV w6.drew (.slice (some ⟨g, 0, none⟩) 0 0) ((ws.drop 7).map Value.string) from ⟨_, _, _, rfl, by rw [hdr]; rfl, Nat.le_refl _, by decide, Or.inl (by rw [hdr]; rfl)⟩)
        clear hdr
        go_region_with ((first
          | (go_at_call_of 28 (⟨#[119, 101, 115, 116]⟩ : ByteArray); refine (run_Contains _ (ws.drop 7) ⟨#[119, 101, 115, 116]⟩ _ SDd.out).mono ?_; rw [show Lib.containsS (ws.drop 7) ⟨#[119, 101, 115, 116]⟩ = we from HWE.out]; rintro e w9 ⟨rfl, rfl⟩)
          | (go_at_call_of 28 (⟨#[99, 97, 115, 116]⟩ : ByteArray); refine (run_Contains _ (ws.drop 7) ⟨#[99, 97, 115, 116]⟩ _ SDd.out).mono ?_; rw [show Lib.containsS (ws.drop 7) ⟨#[99, 97, 115, 116]⟩ = ca from HCA.out]; rintro e w9 ⟨rfl, rfl⟩)))
        all_goals go_wp2_with fail
        all_goals go_meet
        all_goals exact ⟨((k6.set 7 (.bool we)).set 8 (.bool ca)).drew, (((Mod.refl (fun q => q = w.heap.size + 1) w6).setCell (p := ⟨w.heap.size + 1, 7, none⟩) (Or.inl rfl) (.bool we)).setCell (p := ⟨w.heap.size + 1, 8, none⟩) (Or.inl rfl) (.bool ca)).drew⟩
      · have hc8 : 7 < cap := by omega
        have SD := slv_eq (SL6.out.drop7 hm7 hc8) (ys := (ws.drop 7).map Value.string) (by rw [List.map_drop])
        have SDd := Lib.hid (SD.later (Mod.refl (fun _ => False) w6).drew (by simp))
        clear SD
        go_region_with ((first
          | (go_at_call_of 28 (⟨#[119, 101, 115, 116]⟩ : ByteArray); refine (run_Contains _ (ws.drop 7) ⟨#[119, 101, 115, 116]⟩ _ SDd.out).mono ?_; rw [show Lib.containsS (ws.drop 7) ⟨#[119, 101, 115, 116]⟩ = we from HWE.out]; rintro e w9 ⟨rfl, rfl⟩)
          | (go_at_call_of 28 (⟨#[99, 97, 115, 116]⟩ : ByteArray); refine (run_Contains _ (ws.drop 7) ⟨#[99, 97, 115, 116]⟩ _ SDd.out).mono ?_; rw [show Lib.containsS (ws.drop 7) ⟨#[99, 97, 115, 116]⟩ = ca from HCA.out]; rintro e w9 ⟨rfl, rfl⟩)))
        all_goals go_wp2_with fail
        all_goals go_meet
        all_goals exact ⟨((k6.set 7 (.bool we)).set 8 (.bool ca)).drew, (((Mod.refl (fun q => q = w.heap.size + 1) w6).setCell (p := ⟨w.heap.size + 1, 7, none⟩) (Or.inl rfl) (.bool we)).setCell (p := ⟨w.heap.size + 1, 8, none⟩) (Or.inl rfl) (.bool ca)).drew⟩
    case rest =>
      obtain ⟨k7, m7⟩ := hcut
      obtain ⟨w7, rfl⟩ : ∃ wo : World, wo = wc := ⟨_, rfl⟩
      have mm7 := mm6.trans m7 (fun i hi e => by omega)
      have kr7 := kr6.later m7 (by omega)
      have L7 := Lib.hid (HL.out.later0 mm7)
      clear y7 y8 f7 f8 l6 SL6 HWE HCA b7 b8 k6 kr6 mm6 m7
      obtain ⟨c0, c1, c2, c3, c4, c5, c6, c7, c8⟩ := cells9 k7
      dsimp only at c0 c1 c2 c3 c4 c5 c6 c7 c8
      go_wp2_with fail
      refine (run_Text (⟨x0, x1, x2, x3, x4, x5, x6, we, ca⟩ : Cfg) HWF.out _ L7.out).mono ?_
      rintro e w8 ⟨rfl, m8⟩
      have mm8 := mm7.trans m8 (by simp)
      have kr8 : Blk w8 w.heap.size zeroC.cells 23 := kr7.later m8 (by simp)
      have k8 := k7.later m8 (by simp)
      clear L7 mm7 kr7 k7 c0 c1 c2 c3 c4 c5 c6 c7 c8 m8
      obtain ⟨c0, c1, c2, c3, c4, c5, c6, c7, c8⟩ := cells9 k8
      dsimp only at c0 c1 c2 c3 c4 c5 c6 c7 c8
      by_cases ht : (⟨x0, x1, x2, x3, x4, x5, x6, we, ca⟩ : Cfg).txt = s.data.toList
      · have hts : mkS (⟨x0, x1, x2, x3, x4, x5, x6, we, ca⟩ : Cfg).txt = s := by
          rw [ht]
        rw [hts]
        have hrd1 : rd s = if (⟨x0, x1, x2, x3, x4, x5, x6, we, ca⟩ : Cfg).chk = 0 then ((⟨x0, x1, x2, x3, x4, x5, x6, we, ca⟩ : Cfg), 0) else (zeroC, (⟨x0, x1, x2, x3, x4, x5, x6, we, ca⟩ : Cfg).chk) := by
          rw [HRD0.out]
          unfold endC
          rw [if_pos ht]
        have HRD1 := Lib.hid hrd1
        clear ht hts hrd1
        go_wp2_with fail
        refine (run_Check (⟨x0, x1, x2, x3, x4, x5, x6, we, ca⟩ : Cfg) _).mono ?_
        rintro e w9 ⟨rfl, m9⟩
        have mm9 := mm8.trans m9 (by simp)
        have kr9 := kr8.later m9 (by simp)
        have k9 := k8.later m9 (by simp)
        clear m9 mm8 kr8 k8 c0 c1 c2 c3 c4 c5 c6 c7 c8
        obtain ⟨c0, c1, c2, c3, c4, c5, c6, c7, c8⟩ := cells9 k9
        dsimp only at c0 c1 c2 c3 c4 c5 c6 c7 c8
        obtain ⟨r0, r1, r2, r3, r4, r5, r6, r7, r8⟩ := cells9 kr9
        have lr := kr9.lt
        have z0 := kr9.fz 0
        have z1 := kr9.fz 1
        have z2 := kr9.fz 2
        have z3 := kr9.fz 3
        have z4 := kr9.fz 4
        have z5 := kr9.fz 5
        have z6 := kr9.fz 6
        have z7 := kr9.fz 7
        have z8 := kr9.fz 8
        dsimp only [zeroC] at r0 r1 r2 r3 r4 r5 r6 r7 r8
        by_cases hk : (⟨x0, x1, x2, x3, x4, x5, x6, we, ca⟩ : Cfg).chk = 0
        · have hrd : rd s = ((⟨x0, x1, x2, x3, x4, x5, x6, we, ca⟩ : Cfg), 0) := by rw [HRD1.out, if_pos hk]
          have HRD := Lib.hid hrd
          rw [hk]
          clear hrd hk
          go_wp2
          have kf := put9_blk (d := (⟨x0, x1, x2, x3, x4, x5, x6, we, ca⟩ : Cfg)) kr9
          have mf := put9_mod mm9 (b := w.heap.size) (Or.inr (Nat.le_refl _)) (⟨x0, x1, x2, x3, x4, x5, x6, we, ca⟩ : Cfg)
          change bodyPost _ _ _ _ _ (put9 _ w.heap.size (⟨x0, x1, x2, x3, x4, x5, x6, we, ca⟩ : Cfg))
          generalize put9 _ w.heap.size (⟨x0, x1, x2, x3, x4, x5, x6, we, ca⟩ : Cfg) = wf at kf mf ⊢
          obtain ⟨t0, t1, t2, t3, t4, t5, t6, t7, t8⟩ := cells9 kf
          exact bodyPost_ret (v := .tuple #[.agg ((⟨x0, x1, x2, x3, x4, x5, x6, we, ca⟩ : Cfg)).cells, .int .i64 0]) (by simp [results, Tryd.results17, go_sem, t0, t1, t2, t3, t4, t5, t6, t7, t8, Cfg.cells]) rfl ⟨by rw [HRD.out], mf⟩
        · have hrd : rd s = (zeroC, (⟨x0, x1, x2, x3, x4, x5, x6, we, ca⟩ : Cfg).chk) := by rw [HRD1.out, if_neg hk]
          have HRD := Lib.hid hrd
          have hk2 : ((⟨x0, x1, x2, x3, x4, x5, x6, we, ca⟩ : Cfg).chk != 0) = true := by simp [hk]
          have hk3 : ((⟨x0, x1, x2, x3, x4, x5, x6, we, ca⟩ : Cfg).chk == 0) = false := by simp [hk]
          generalize (⟨x0, x1, x2, x3, x4, x5, x6, we, ca⟩ : Cfg).chk = E at HRD hk hk2 hk3 ⊢
          clear hrd hk
          go_wp2
          have kf := put9_blk (d := zeroC) kr9
          have mf := put9_mod mm9 (b := w.heap.size) (Or.inr (Nat.le_refl _)) zeroC
          change bodyPost _ _ _ _ _ (put9 _ w.heap.size zeroC)
          generalize put9 _ w.heap.size zeroC = wf at kf mf ⊢
          obtain ⟨t0, t1, t2, t3, t4, t5, t6, t7, t8⟩ := cells9 kf
          exact bodyPost_ret (v := .tuple #[.agg (zeroC).cells, .int .i64 E]) (by simp [results, Tryd.results17, go_sem, t0, t1, t2, t3, t4, t5, t6, t7, t8, Cfg.cells]) rfl ⟨by rw [HRD.out], mf⟩
      · have hrd : rd s = (zeroC, 2) := by
          rw [HRD0.out]
          unfold endC
          rw [if_neg ht]
        have HRD := Lib.hid hrd
        obtain ⟨tt, htt⟩ : ∃ tt, mkS (⟨x0, x1, x2, x3, x4, x5, x6, we, ca⟩ : Cfg).txt = tt := ⟨_, rfl⟩
        have hq1 : ¬ tt.toList = s.toList := fun e => ht (by
          have := bytes_inj2 e
          rw [← htt] at this
          rw [← this])
        have hq2 : ¬ s.toList = tt.toList := fun e => hq1 e.symm
        have hq7 : (tt.toList == s.toList) = false := beq_eq_false_iff_ne.2 hq1
        have hq8 : (!tt.toList == s.toList) = true := by rw [hq7]; rfl
        rw [htt]
        obtain ⟨r0, r1, r2, r3, r4, r5, r6, r7, r8⟩ := cells9 kr8
        have lr := kr8.lt
        have z0 := kr8.fz 0
        have z1 := kr8.fz 1
        have z2 := kr8.fz 2
        have z3 := kr8.fz 3
        have z4 := kr8.fz 4
        have z5 := kr8.fz 5
        have z6 := kr8.fz 6
        have z7 := kr8.fz 7
        have z8 := kr8.fz 8
        dsimp only [zeroC] at r0 r1 r2 r3 r4 r5 r6 r7 r8
        clear hrd htt ht
        go_wp2
        have kf := put9_blk (d := zeroC) kr8
        have mf := put9_mod mm8 (b := w.heap.size) (Or.inr (Nat.le_refl _)) zeroC
        change bodyPost _ _ _ _ _ (put9 _ w.heap.size zeroC)
        generalize put9 _ w.heap.size zeroC = wf at kf mf ⊢
        obtain ⟨t0, t1, t2, t3, t4, t5, t6, t7, t8⟩ := cells9 kf
        exact bodyPost_ret (v := .tuple #[.agg (zeroC).cells, .int .i64 2]) (by simp [results, Tryd.results17, go_sem, t0, t1, t2, t3, t4, t5, t6, t7, t8, Cfg.cells]) rfl ⟨by rw [HRD.out], mf⟩
  · have hrd := HNO.out (show ¬ NumsOk ws from hno)
    have HRD := Lib.hid hrd
    have kr6 : Blk w6 w.heap.size zeroC.cells _ := kr5.later m6 (by omega)
    have mm6 := mm5.trans m6 (fun i hi e => by omega)
    obtain ⟨r0, r1, r2, r3, r4, r5, r6, r7, r8⟩ := cells9 kr6
    have lr := kr6.lt
    have z0 := kr6.fz 0
    have z1 := kr6.fz 1
    have z2 := kr6.fz 2
    have z3 := kr6.fz 3
    have z4 := kr6.fz 4
    have z5 := kr6.fz 5
    have z6 := kr6.fz 6
    have z7 := kr6.fz 7
    have z8 := kr6.fz 8
    dsimp only [zeroC] at r0 r1 r2 r3 r4 r5 r6 r7 r8
    clear hrd hno kr5 kX5 kP mP L5 HSL5 m6 HNO HYES HWZ HWL
    go_wp2
    have kf := put9_blk (d := zeroC) kr6
    have mf := put9_mod mm6 (b := w.heap.size) (Or.inr (Nat.le_refl _)) zeroC
    change bodyPost _ _ _ _ _ (put9 _ w.heap.size zeroC)
    generalize put9 _ w.heap.size zeroC = wf at kf mf ⊢
    obtain ⟨t0, t1, t2, t3, t4, t5, t6, t7, t8⟩ := cells9 kf
    exact bodyPost_ret (v := .tuple #[.agg (zeroC).cells, .int .i64 2]) (by simp [results, Tryd.results17, go_sem, t0, t1, t2, t3, t4, t5, t6, t7, t8, Cfg.cells]) rfl ⟨by rw [HRD.out], mf⟩

end Go.Proofs.YthmohnoloonfoaaDoor
