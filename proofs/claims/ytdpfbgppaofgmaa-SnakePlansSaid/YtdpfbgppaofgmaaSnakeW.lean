/- The contracts of snake.Way and snake.Steps. -/
import Derived.Test.YtdpfbgppaofgmaaSnakeL
import Derived.Laws.EntriesVeiled
namespace Go.Proofs.Ytdpfbgppaofgmaa
open Go.RowKit

set_option maxHeartbeats 400000 in
theorem run_way1 (c : Cfg) (B : Nat) (n : Int) (w : World) (hB : Blk w B c.cells 23) :
    Calls Try.prog 51 #[.int .i64 n, .pointer (some ⟨B, 0, none⟩)] w fun e w' => e = .returned (.bool (c.is n)) ∧ Mod (fun _ => False) w w' := by
  obtain ⟨c0, c1, c2, c3, c4, c5, c6, c7, c8⟩ := cfg_cells hB
  go_enter Try.func51, Try.ntmps51
  go_wp2_with fail
  refine (run_Is c n _).mono ?_
  rintro e w1 ⟨rfl, m1⟩
  go_wp2
  go_ret
  exact ⟨rfl, m1⟩

theorem tells_way2 (c : Cfg) (B V : Nat) (w : World) (hB : Blk w B c.cells 23) (hV : Blk w V #[.func (.func 51) #[] #[.pointer (some ⟨B, 0, none⟩)]] 54) :
    Tells w 52 #[.pointer (some ⟨V, 0, none⟩)] (fun n => !c.is n) where
  enters := enters_of Try.func52 (by kernel_rfl) rfl
  call := by
    intro W x hm
    have v0 := (hV.later hm (by simp)).cell 0
    simp at v0
    go_enter Try.func52, Try.ntmps52
    go_wp2_with fail
    refine (run_way1 c B x _ (hB.later hm (by simp))).mono ?_
    rintro e w1 ⟨rfl, m1⟩
    go_wp2
    go_ret
    exact ⟨rfl, m1⟩

theorem own_later {w w' : World} {base : Nat} {e : TypeId} {size : Nat} {v : Value} {n : Nat} {xs : List Value} (h : w.ownsRow base e size v n xs) (m : Mod (fun _ => False) w w') : w'.ownsRow base e size v n xs :=
  h.kept (row := none) ⟨m.os, m.tape, m.output, m.size, fun q hq _ => m.block q hq (by simp)⟩ (by cases hv : Value.ownBlock v <;> simp)

theorem Cfg.tail_len {c : Cfg} : ∀ (ts : List Int) (n : Int), c.is n = true → (∀ t ∈ ts, c.is t = true) → (c.tail n ts).length ≤ 4096 * ts.length := by
  intro ts
  induction ts with
  | nil => intro n _ _; simp [Cfg.tail]
  | cons t ts ih =>
    intro n hn h
    have ht := h t List.mem_cons_self
    have h1 := ih t ht (fun x hx => h x (List.mem_cons_of_mem _ hx))
    have h2 := Cfg.leg_len ht _ n (Nat.le_refl _) hn
    have h3 := c.gap_bd n t
    simp only [Cfg.tail, List.length_append, List.length_cons]
    omega

set_option maxRecDepth 100000 in
set_option maxHeartbeats 1600000 in
theorem run_Way (c : Cfg) (n : Int) (v : Value) (ts : List Int) (w : World) (hs : SlV w v (ts.map (Value.int .i64))) (hlen : ts.length ≤ 1000000) :
    Calls Try.prog 22 #[.agg c.cells, .int .i64 n, v] w fun e w' => ∃ r, e = .returned r ∧ Mod (fun _ => False) w w' ∧ SlV w' r ((c.way n ts).map (Value.int .i64)) := by
  have hmf : ∀ (fn : Fn) (first cap : Array Value) (w : World), (Instr.makeFunc fn first cap).run Try.prog w = .ok (.func fn first cap) w := fun _ _ _ _ => rfl
  have kb := (Blk.made w c.cells 23).alloc (.cells #[.func (.func 51) #[] #[.pointer (some ⟨w.heap.size, 0, none⟩)]] 54)
  have kv := Blk.made (w.alloc (.cells c.cells 23)) #[.func (.func 51) #[] #[.pointer (some ⟨w.heap.size, 0, none⟩)]] 54
  have m0 : Mod (fun _ => False) w ((w.alloc (.cells c.cells 23)).alloc (.cells #[.func (.func 51) #[] #[.pointer (some ⟨w.heap.size, 0, none⟩)]] 54)) := ((Mod.refl _ _).alloc _).alloc _
  simp only [World.size_alloc] at kv
  obtain ⟨a, len, cap, rfl, hl, hcap, hmax, -⟩ := id hs
  rw [List.length_map] at hl
  have HS := Lib.hid hs
  have HL := Lib.hid hl
  unfold maxLen at hmax
  have hlen' : len ≤ 1000000 := by omega
  clear hs hl hlen
  simp only [Cfg.cells] at kb kv m0 ⊢
  go_enter Try.func22, Try.ntmps22
  have hno : (c.is n && ts.all c.is) = false → ∀ W, SlV W (.slice none 0 0) ((c.way n ts).map (Value.int .i64)) := by
    intro h W
    have : c.way n ts = [] := by unfold Cfg.way; rw [h]; rfl
    rw [this]
    exact ⟨_, _, _, rfl, rfl, Nat.le_refl _, by decide, Or.inl rfl⟩
  have HN := Lib.hid hno
  clear hno
  go_wp2_with fail
  refine (run_way1 c w.heap.size n _ kb).mono ?_
  rintro e w1 ⟨rfl, m1⟩
  have kb1 := kb.later m1 (by simp)
  have kv1 := kv.later m1 (by simp)
  have mm1 := m0.trans m1 (by simp)
  clear kb kv m0 m1
  cases hn : c.is n with
  | false =>
    have hf : (c.is n && ts.all c.is) = false := by simp [hn]
    have HF := Lib.hid hf
    clear hf hn
    go_wp2
    go_ret
    exact ⟨_, rfl, mm1, HN.out HF.out _⟩
  | true =>
  go_wp2_with fail
  refine (run_ContainsFunc w1 _ _ _ _ ts _ (tells_way2 c w.heap.size (w.heap.size + 1) w1 kb1 kv1) (Mod.refl _ _) (HS.out.later mm1 (by simp))).mono ?_
  rintro e w2 ⟨rfl, m2⟩
  have kb2 := kb1.later m2 (by simp)
  have mm2 := mm1.trans m2 (by simp)
  clear kb1 kv1 mm1 m2
  have hall : (ts.any fun n => !c.is n) = !ts.all c.is := by rw [← List.not_all_eq_any_not]
  rw [hall]
  cases ha : ts.all c.is with
  | false =>
    have hf : (c.is n && ts.all c.is) = false := by simp [ha]
    have HF := Lib.hid hf
    clear hf hn ha hall
    go_wp2
    go_ret
    exact ⟨_, rfl, mm2, HN.out HF.out _⟩
  | true =>
  have hw : c.way n ts = n :: c.tail n ts := by unfold Cfg.way; rw [hn, ha]; rfl
  have hats : ∀ t ∈ ts, c.is t = true := fun t ht => List.all_eq_true.1 ha t ht
  have htl := Cfg.tail_len ts n hn hats
  have HW := Lib.hid hw
  have HN2 := Lib.hid hn
  have HA := Lib.hid hats
  have hT : (n :: c.tail n ts).length ≤ 1 + 4096 * len := by have := HL.out; simp; omega
  have HT := Lib.hid hT
  clear hw hats htl hn ha hall hT HN
  have hown0 : (w2.alloc (.cells #[.int .i64 n] 3)).ownsRow w2.heap.size 3 1 (.slice (some ⟨w2.heap.size, 0, none⟩) 1 1) 1 [.int .i64 n] :=
    World.ownsRow_lit _ #[.int .i64 n] 1 (Nat.le_refl _) (by decide) rfl
  have m23 : Mod (fun _ => False) w2 (w2.alloc (.cells #[.int .i64 n] 3)) := (Mod.refl _ _).alloc _
  go_wp2
  generalize hw3 : w2.alloc (.cells #[.int .i64 n] 3) = w3 at hown0 m23 ⊢
  clear hw3
  have kb3 := kb2.later m23 (by simp)
  have mm3 := mm2.trans m23 (by simp)
  have s23 := m23.size
  have lb2 := kb2.lt
  have hlow := mm2.size
  clear kb2 m23
  go_loopw [1, 8, 27] (fun m o i wr => ∃ (k : Nat) (m' : Int) (xs : List Int), k ≤ len ∧ i = .int .i64 k ∧ m = .int .i64 m' ∧ wr.ownsRow w2.heap.size 3 1 o xs.length (xs.map (Value.int .i64)) ∧ Mod (fun q => w2.heap.size ≤ q) w3 wr ∧ c.is m' = true ∧ xs ++ c.tail m' (ts.drop k) = n :: c.tail n ts) (fun _ _ i _ => len - (intOf i).toNat)
  case atStart => exact ⟨0, n, [n], by omega, rfl, rfl, hown0, Mod.refl _ _, HN2.out, rfl⟩
  case round =>
    obtain ⟨k, m', xs, hk, rfl, rfl, hown, hmod, hm', hxs⟩ := hrel
    obtain ⟨wA, rfl⟩ : ∃ wo : World, wo = wr := ⟨_, rfl⟩
    have HM := Lib.hid hm'
    have HX := Lib.hid hxs
    have MA : Mod (fun _ => False) w wA := mm3.trans hmod (fun i hi h => by omega)
    clear hm' hxs
    by_cases hlt : k < len
    · have hkl : k < ts.length := by have := HL.out; omega
      obtain ⟨B, off, rfl, hB, hcell⟩ := HS.out.at k hlt
      have hv : (ts.map (Value.int .i64)).getD k undef = .int .i64 ts[k] := by simp [List.getD_eq_getElem?_getD, hkl]
      rw [hv] at hcell
      have hcell := (MA.cell (p := ⟨B, off + k, none⟩) hB (by simp)).trans hcell
      have htk := HA.out ts[k] (List.getElem_mem hkl)
      have hdr : ts.drop k = ts[k] :: ts.drop (k + 1) := List.drop_eq_getElem_cons hkl
      have hX2 : xs ++ (c.leg m' ts[k] ++ c.tail ts[k] (ts.drop (k + 1))) = n :: c.tail n ts := by rw [← HX.out, hdr]; rfl
      have HTK := Lib.hid htk
      have kbA := kb3.later hmod (by omega)
      have HX2 := Lib.hid hX2
      clear hv htk hdr hX2 HX
      generalize ts[k] = t at hcell HTK HX2
      go_wp2
      go_loopw [1, 8] (fun m o wr => ∃ (m2 : Int) (ys : List Int), m = .int .i64 m2 ∧ wr.ownsRow w2.heap.size 3 1 o ys.length (ys.map (Value.int .i64)) ∧ Mod (fun q => w2.heap.size ≤ q) w3 wr ∧ c.is m2 = true ∧ ys ++ (c.leg m2 t ++ c.tail t (ts.drop (k + 1))) = n :: c.tail n ts) (fun m _ _ => c.gap (intOf m) t)
      case atStart => exact ⟨m', xs, rfl, hown, hmod, HM.out, HX2.out⟩
      case round =>
        obtain ⟨m2, ys, rfl, hown2, hmod2, hm2, hys⟩ := hrel
        have HM2 := Lib.hid hm2
        have HY := Lib.hid hys
        clear hm2 hys hown
        by_cases hmt : m2 = t
        · have hYS : ys ++ c.tail t (ts.drop (k + 1)) = n :: c.tail n ts := by
            have := HY.out
            rw [hmt, Cfg.leg_self, List.nil_append] at this
            exact this
          have hq : (m2 == t) = true := by simp [hmt]
          have hq2 : (m2 != t) = false := by simp [hmt]
          have HYS := Lib.hid hYS
          have HMT := Lib.hid hmt
          clear hmt hYS
          go_wp2
          go_roundw
          case rel => exact ⟨k + 1, m2, ys, by omega, by go_num, rfl, hown2, hmod2, HM2.out, by rw [HMT.out]; exact HYS.out⟩
          case measure => simp [intOf]; omega
        · obtain ⟨g1, g2, g3, -, -⟩ := Cfg.nxt_is HM2.out HTK.out hmt
          have hst := Cfg.leg_step HM2.out HTK.out hmt
          have hq : (m2 == t) = false := by simp [hmt]
          have hq2 : (m2 != t) = true := by simp [hmt]
          have hlen : ys.length + 1 ≤ 1 + 4096 * len := by
            have h1 := HY.out
            rw [hst] at h1
            have h2 := HT.out
            rw [← h1] at h2
            simp at h2
            omega
          have hnx : c.nxt m2 t = c.besV m2 (c.stepV m2 t) := rfl
          have HST := Lib.hid hst
          have HG1 := Lib.hid g1
          have HG3 := Lib.hid g3
          have HNX := Lib.hid hnx
          have kbR := kb3.later hmod2 (by omega)
          obtain ⟨c0, c1, c2, c3, c4, c5, c6, c7, c8⟩ := cfg_cells kbR
          clear hmt hst g1 g2 g3 hnx
          go_wp2_with fail
          refine (run_Step c m2 t _).mono ?_
          rintro e w5 ⟨rfl, m5⟩
          have kb5 := kbR.later m5 (by simp)
          have hown5 := own_later hown2 m5
          have hmod5 := hmod2.trans m5 (by simp)
          clear kbR c0 c1 c2 c3 c4 c5 c6 c7 c8 m5 hown2 hmod2
          obtain ⟨c0, c1, c2, c3, c4, c5, c6, c7, c8⟩ := cfg_cells kb5
          go_wp2_with fail
          refine (run_Beside c m2 _ _).mono ?_
          rintro e w6 ⟨rfl, m6⟩
          have hown6 := own_later hown5 m6
          have hmod6 := hmod5.trans m6 (by simp)
          clear kb5 c0 c1 c2 c3 c4 c5 c6 c7 c8 m6 hown5 hmod5
          rw [← HNX.out]
          have hs6 := hmod6.size
          have hlow6 := fun i e => (hown6.lt i e).1
          generalize c.nxt m2 t = m3 at *
          go_wp2_with (at_builtin; refine wpList_appendE rfl _ _ 31 rfl w2.heap.size 3 (.int .i64 0) 1 8 Try.underlying31 info_int' rfl (by decide) _ _ _ rfl hown6 #[_] rfl rfl (by simp [Value.oneCell']) (by unfold maxLen; omega) (by omega) (by omega) ?_; intro g cap wz hown7 hm7 hat7)
          have hmod7 := hmod6.trans (S := fun q => w2.heap.size ≤ q) hm7 (fun i hi hs => hlow6 i hs)
          have hown8 : wz.ownsRow w2.heap.size 3 1 (.slice (some ⟨g, 0, none⟩) (ys.length + 1) cap) (ys ++ [m3]).length ((ys ++ [m3]).map (Value.int .i64)) := by simpa using hown7
          clear hown6 hown7 hm7 hmod6 hlow6
          go_wp2
          go_roundw
          case rel => exact ⟨m3, ys ++ [m3], rfl, hown8, hmod7, HG1.out, by rw [← HY.out, HST.out]; simp⟩
          case measure => exact HG3.out
    · have hkl : ts.drop k = [] := List.drop_eq_nil_of_le (by have := HL.out; omega)
      have hfin : xs = c.way n ts := by
        rw [HW.out, ← HX.out, hkl]
        simp [Cfg.tail]
      rw [hfin] at hown
      have HO := Lib.hid (SlV.own hown)
      clear hkl hfin hown
      go_wp2
      go_ret
      exact ⟨_, rfl, MA, HO.out⟩

end Go.Proofs.Ytdpfbgppaofgmaa
