/- The contract of a model's put. -/
import Derived.Test.YtonnooenebfbeaaMdl
import Derived.Test.YtonnooenebfbeaaSteps
namespace Go.Proofs.Ytonnooenebfbeaa
open Go.RowKit

theorem ints_get {xs : List Int} {k : Nat} {x : Int} (h : xs[k]? = some x) : (xs.map (Value.int .i64)).getD k undef = .int .i64 x := by
  simp only [List.getD_eq_getElem?_getD, List.getElem?_map, h]; rfl

def updQ (Q : Int → Int → List ByteArray) (i j : Int) (l : List ByteArray) : Int → Int → List ByteArray := fun a b => if a = i ∧ b = j then l else Q a b
def putQ (Q : Int → Int → List ByteArray) (i : Int) (data : ByteArray) (ts : List Int) : Int → Int → List ByteArray := ts.foldl (fun Q t => updQ Q i t (Q i t ++ [data])) Q
theorem putQ_step (Q : Int → Int → List ByteArray) (i : Int) (data : ByteArray) (ts : List Int) (k : Nat) (t : Int) (h : ts[k]? = some t) : putQ Q i data (ts.take (k + 1)) = updQ (putQ Q i data (ts.take k)) i t (putQ Q i data (ts.take k) i t ++ [data]) := by
  rw [List.take_add_one, h]
  unfold putQ
  rw [List.foldl_append]
  rfl

theorem is_wf {c : Cfg} {n : Int} (h : c.is n = true) : (Lit.int .i64 n).wf = true := by
  rw [Cfg.is_iff] at h
  have := c.nodes_bd
  have h1 : IntKind.i64.min = -9223372036854775808 := by decide
  have h2 : IntKind.i64.max = 9223372036854775807 := by decide
  simp only [Lit.wf, h1, h2, Bool.and_eq_true, decide_eq_true_eq]
  omega

/-- One text more in one queue. -/
theorem MdlIn.grow {w w' : World} {b bq bu bc : Nat} {f : Int → Int → Value} {c : Cfg} {k : Nat} {Q : Int → Int → List ByteArray} {U : List Int} {C : List Bool} (h : MdlIn w b bq bu bc f c k Q U C)
    {i j : Int} {v' : Value} {l : List ByteArray} {g' : Nat} (hm : MapV w' bq (k + 1) (upd2 f i j v')) (hq : QS w' v' l) (hll : l.length ≤ k + 1) (hg : qblk v' = some g') (hfr : qblk (f i j) = some g' ∨ w.heap.size ≤ g') (m : Mod (fun g => g = bq ∨ qblk (f i j) = some g) w w') :
    MdlIn w' b bq bu bc (upd2 f i j v') c (k + 1) (updQ Q i j l) U C := by
  have hlt : b < w.heap.size ∧ bq < w.heap.size ∧ bu < w.heap.size ∧ bc < w.heap.size := ⟨h.blk.lt, h.map.lt, h.ub.lt, h.cb.lt⟩
  have hg4 : g' ≠ b ∧ g' ≠ bq ∧ g' ≠ bu ∧ g' ≠ bc := by
    rcases hfr with hfr | hfr
    · exact h.sep _ _ _ hfr
    · omega
  have hne := h.ne
  have hoff : ∀ x, x = b ∨ x = bu ∨ x = bc → ¬ (x = bq ∨ qblk (f i j) = some x) := by
    rintro x hx (e | e)
    · omega
    · have := h.sep _ _ _ e
      omega
  refine ⟨h.blk.later m (hoff b (Or.inl rfl)), hm, h.ub.later m (hoff bu (Or.inr (Or.inl rfl))), h.cb.later m (hoff bc (Or.inr (Or.inr rfl))), h.ul, h.cl, ?_, ?_, ?_, hne, ?_, fun u hu => by have := h.uk u hu; omega⟩
  · intro a a'
    unfold upd2 updQ
    by_cases hab : a = i ∧ a' = j
    · rw [if_pos hab, if_pos hab]; exact hq
    · rw [if_neg hab, if_neg hab]
      refine (h.qs a a').later m ?_
      rintro g hga (e | e)
      · exact (h.sep _ _ _ hga).2.1 e
      · exact hab (h.dis _ _ _ _ _ hga e)
  · intro a a' x x' g hga hgx
    unfold upd2 at hga hgx
    by_cases hab : a = i ∧ a' = j <;> by_cases hxy : x = i ∧ x' = j
    · exact ⟨by rw [hab.1, hxy.1], by rw [hab.2, hxy.2]⟩
    · rw [if_pos hab, hg] at hga
      rw [if_neg hxy] at hgx
      simp only [Option.some.injEq] at hga
      subst hga
      rcases hfr with hfr | hfr
      · exact absurd (h.dis _ _ _ _ _ hgx hfr) hxy
      · have := (h.qs x x').lt hgx
        omega
    · rw [if_neg hab] at hga
      rw [if_pos hxy, hg] at hgx
      simp only [Option.some.injEq] at hgx
      subst hgx
      rcases hfr with hfr | hfr
      · exact absurd (h.dis _ _ _ _ _ hga hfr) hab
      · have := (h.qs a a').lt hga
        omega
    · rw [if_neg hab] at hga
      rw [if_neg hxy] at hgx
      exact h.dis _ _ _ _ _ hga hgx
  · intro a a' g hga
    unfold upd2 at hga
    by_cases hab : a = i ∧ a' = j
    · rw [if_pos hab, hg] at hga
      simp only [Option.some.injEq] at hga
      subst hga
      exact hg4
    · rw [if_neg hab] at hga
      exact h.sep _ _ _ hga
  · intro a a'
    unfold updQ
    by_cases hab : a = i ∧ a' = j
    · rw [if_pos hab]
      exact hll
    · rw [if_neg hab]
      have := h.qk a a'
      omega

theorem MdlIn.setU {w : World} {b bq bu bc : Nat} {f : Int → Int → Value} {c : Cfg} {k : Nat} {Q : Int → Int → List ByteArray} {U : List Int} {C : List Bool} (h : MdlIn w b bq bu bc f c k Q U C)
    {m k' : Nat} {x : Int} (hk : k ≤ k') (hx : -(k' : Int) ≤ x ∧ x ≤ (k' : Int)) : MdlIn (w.setCell ⟨bu, m, none⟩ (.int .i64 x)) b bq bu bc f c k' Q (U.set m x) C := by
  have hm : Mod (· = bu) w (w.setCell ⟨bu, m, none⟩ (.int .i64 x)) := (Mod.refl (fun i => i = bu) w).setCell (p := ⟨bu, m, none⟩) (Or.inl rfl) _
  have hne := h.ne
  refine ⟨?_, (h.map.later hm (by omega)).mono hk, ?_, h.cb.later hm (by omega), by simpa using h.ul, h.cl, fun i j => (h.qs i j).later hm (fun g hg e => (h.sep _ _ _ hg).2.2.1 e), h.dis, h.sep, h.ne, fun i j => Nat.le_trans (h.qk i j) hk, ?_⟩
  · have := h.blk.later hm (by omega)
    simpa using this
  · have := h.ub.set m (.int .i64 x)
    rw [List.map_set]
    simpa using this
  · intro u hu
    rcases List.mem_or_eq_of_mem_set hu with hu | rfl
    · have := h.uk u hu
      omega
    · exact hx

set_option maxRecDepth 100000 in
set_option maxHeartbeats 3200000 in
theorem run_put {b bq bu bc : Nat} {f : Int → Int → Value} {c : Cfg} {k : Nat} {Q : Int → Int → List ByteArray} {U : List Int} {C : List Bool} (m : Nat) (data : ByteArray) (v : Value) (ts : List Int) (w : World)
    (h : MdlIn w b bq bu bc f c k Q U C) (hm : m < U.length) (hs : SlV w v (ts.map (Value.int .i64))) (hts : ∀ t ∈ ts, c.is t = true) (hlen : ts.length ≤ 1000) (hk : k ≤ 100000) (hdata : data.size ≤ 4294967295) (hB : 0 ≤ c.Bound ∧ c.Bound ≤ 16) (hsep : ∀ a n c, v = .slice (some a) n c → ¬ own4 b bq bu bc f a.block) (hmis : c.is m = true) :
    Calls Try.prog 35 #[.pointer (some ⟨b, 0, none⟩), .int .i64 m, .string data, v] w fun e w' =>
      (64 < data.size ∧ e = .returned (.int .i64 4) ∧ Mod (fun _ => False) w w') ∨
      (data.size ≤ 64 ∧ c.Bound < U.getD m 0 + ts.length ∧ e = .returned (.int .i64 7) ∧ Mod (fun _ => False) w w') ∨
      (data.size ≤ 64 ∧ U.getD m 0 + ts.length ≤ c.Bound ∧ e = .returned (.int .i64 0) ∧ Mod (own4 b bq bu bc f) w w' ∧
        ∃ f', MdlIn w' b bq bu bc f' c (k + ts.length) (putQ Q m data ts) (U.set m (U.getD m 0 + ts.length)) C ∧ ∀ g, own4 b bq bu bc f' g → own4 b bq bu bc f g ∨ w.heap.size ≤ g) := by
  obtain ⟨c0, c1, c2, c3, c4, c5, c6, c7, c8, c9, c10, c11⟩ := mdl_cells h
  obtain ⟨a, len, cap, rfl, hl, hcap, hmax, -⟩ := id hs
  rw [List.length_map] at hl
  have HM := Lib.hid h
  have HS := Lib.hid hs
  have HL := Lib.hid hl
  have HSEP := Lib.hid hsep
  have HMIS := Lib.hid hmis
  clear hsep hmis
  have HTS := Lib.hid hts
  unfold maxLen at hmax
  have hlen' : len ≤ 1000 := by omega
  have hu : w.cell? ⟨bu, m, none⟩ = some (.int .i64 (U.getD m 0)) := by
    rw [h.ub.cell]
    simp [List.getD_eq_getElem?_getD, List.getElem?_eq_getElem hm]
  have hub : -(k : Int) ≤ U.getD m 0 ∧ U.getD m 0 ≤ (k : Int) := by
    have e : U.getD m 0 = U[m] := by simp [List.getD_eq_getElem?_getD, List.getElem?_eq_getElem hm]
    rw [e]
    exact h.uk _ (List.getElem_mem hm)
  obtain ⟨u, hue⟩ : ∃ u, U.getD m 0 = u := ⟨_, rfl⟩
  rw [hue] at hu hub
  have HU := Lib.hid hue
  have r0 : (0 : Int) ≤ (m : Int) := by omega
  have r1 : (m : Int) < (U.length : Int) := by omega
  have u1 : IntKind.i64.wrap (u + (len : Int)) = u + (len : Int) := IntWalk.i64_in _ (by omega)
  rw [hue, hl]
  clear h hs hl hts hlen hue
  go_enter Try.func35, Try.ntmps35
  by_cases hd : 64 < data.size
  · have hd1 : (64 : Int) < (data.size : Int) := by omega
    go_wp2
    go_ret
    exact Or.inl ⟨hd, rfl, Mod.refl _ _⟩
  have hd1 : ¬ (64 : Int) < (data.size : Int) := by omega
  have hd2 : data.size ≤ 64 := by omega
  by_cases hfu : c.Bound < u + (len : Int)
  · have q1 : decide (c.Bound < u + (len : Int)) = true := by simp only [decide_eq_true_eq]; omega
    go_wp2
    go_quiet (fail)
    go_wp2
    go_ret
    exact Or.inr (Or.inl ⟨hd2, hfu, rfl, (Mod.refl _ _).drewN _⟩)
  have q1 : decide (c.Bound < u + (len : Int)) = false := by simp only [decide_eq_false_iff_not]; omega
  have hfu2 : u + (len : Int) ≤ c.Bound := by omega
  go_wp2
  go_quiet (fail)
  have hmq : Mod (fun _ => False) w (w.drewN nq) := (Mod.refl _ w).drewN nq
  have HM1 := Lib.hid (HM.out.later hmq (by simp))
  have HS1 := Lib.hid (HS.out.later hmq (by simp))
  have hsz : (w.drewN nq).heap.size = w.heap.size := rfl
  have HSZ := Lib.hid hsz
  clear c0 c1 c2 c3 c4 c5 c6 c7 c8 c9 c10 c11 hu u1 q1 hsz
  generalize w.drewN nq = w1 at hmq HM1 HS1 HSZ ⊢
  go_wp2
  go_loopw [35] (fun i wr => ∃ (kk : Nat) (f' : Int → Int → Value), kk ≤ len ∧ i = .int .i64 kk ∧ MdlIn wr b bq bu bc f' c (k + kk) (putQ Q m data (ts.take kk)) U C ∧ Mod (own4 b bq bu bc f) w1 wr ∧ ∀ g, own4 b bq bu bc f' g → own4 b bq bu bc f g ∨ w1.heap.size ≤ g) (fun i _ => len - (intOf i).toNat)
  case atStart => exact ⟨0, f, by omega, by simp, by simpa [putQ] using HM1.out, Mod.refl _ _, fun g hg => Or.inl hg⟩
  case round =>
    obtain ⟨kk, f', hkk, rfl, hM, hmod, hown⟩ := hrel
    obtain ⟨wA, rfl⟩ : ∃ wo : World, wo = wr := ⟨_, rfl⟩
    have HMA := Lib.hid hM
    have HOW := Lib.hid hown
    clear hM hown
    by_cases hlt : kk < len
    · obtain ⟨t, ht⟩ : ∃ t, ts[kk]? = some t := ⟨_, List.getElem?_eq_getElem (by have := HL.out; omega)⟩
      have htw := is_wf (HTS.out t (List.mem_of_getElem? ht))
      have hmw := is_wf HMIS.out
      obtain ⟨B, off, rfl, hB1, dt⟩ := HS1.out.at kk hlt
      rw [ints_get ht] at dt
      have dtA := (hmod.cell (p := ⟨B, off + kk, none⟩) hB1 (HSEP.out ⟨B, off, none⟩ _ _ rfl)).trans dt
      have hBA : B < wA.heap.size := Nat.lt_of_lt_of_le hB1 hmod.size
      have r2 : (0 : Int) ≤ (kk : Int) := by omega
      have r3 : (kk : Int) < (len : Int) := by omega
      have HT := Lib.hid ht
      have HTW := Lib.hid htw
      have HMW := Lib.hid hmw
      clear ht htw hmw
      go_wp2_with fail
      have mK : Mod (fun _ => False) wA (wA.alloc (.cells #[.int .i64 m, .int .i64 t] 31)) := (Mod.refl _ _).alloc _
      have hMK := HMA.out.later mK (by simp)
      have kK := Blk.made wA #[.int .i64 m, .int .i64 t] 31
      have HMK := Lib.hid hMK
      clear hMK
      generalize wA.alloc (.cells #[.int .i64 m, .int .i64 t] 31) = wK at mK HMK kK ⊢
      obtain ⟨-, -, -, -, -, -, -, -, -, c9, -, -⟩ := mdl_cells HMK.out
      have y0 := kK.cell 0
      have y1 := kK.cell 1
      simp at y0 y1
      have lK := kK.lt
      have lb := HMK.out.blk.lt
      have hlA := HMA.out.map.lt
      have hnb : ¬ (b = bq ∨ qblk (f' m t) = some b) := by rintro (e | e); exact HMK.out.ne.1 e; exact (HMK.out.sep _ _ _ e).1 rfl
      have hnK : ¬ (wA.heap.size = bq ∨ qblk (f' m t) = some wA.heap.size) := by rintro (e | e); omega; have := (HMA.out.qs _ _).lt e; omega
      have hpq := putQ_step Q m data ts kk t HT.out
      have HPQ := Lib.hid hpq
      clear hpq
      refine wp_region_held_drew (S := fun w' => w'.cell? ⟨b, 9, none⟩ = some (.map (some bq)) ∧ w'.cell? ⟨wA.heap.size, 0, none⟩ = some (.int .i64 m) ∧ w'.cell? ⟨wA.heap.size, 1, none⟩ = some (.int .i64 t)) (by kernel_rfl) ?_ (fun hHeld => ?_)
      · exact ⟨c9, y0, y1⟩
      refine take_run 0 (v := ?_) rfl (by kernel_rfl) (by kernel_rfl) (by kernel_rfl) (fun _ _ _ h => h) (by rfl) ?_ (by assumption) ?_
      rotate_left
      · (intro wx hSw; (try dsimp only at hSw); go_simp; try with_reducible rfl)
      try simp only [Act.put, List.setIfInBounds_toArray, List.set_cons_zero, List.set_cons_succ]
      refine take_run 1 (v := ?_) rfl (by kernel_rfl) (by kernel_rfl) (by kernel_rfl) (fun _ _ _ h => h) (by rfl) ?_ (by assumption) ?_
      rotate_left
      · (intro wx hSw; (try dsimp only at hSw); go_simp; try with_reducible rfl)
      try simp only [Act.put, List.setIfInBounds_toArray, List.set_cons_zero, List.set_cons_succ]
      refine take_run 2 (v := ?_) rfl (by kernel_rfl) (by kernel_rfl) (by kernel_rfl) (fun _ _ _ h => h) (by rfl) ?_ (by assumption) ?_
      rotate_left
      · (intro wx hSw; (try dsimp only at hSw); go_simp; try with_reducible rfl)
      try simp only [Act.put, List.setIfInBounds_toArray, List.set_cons_zero, List.set_cons_succ]
      refine take_run 3 (v := ?_) rfl (by kernel_rfl) (by kernel_rfl) (by kernel_rfl) (fun _ _ _ h => h) (by rfl) ?_ (by assumption) ?_
      rotate_left
      · (intro wx hSw; (try dsimp only at hSw); go_simp; try with_reducible rfl)
      try simp only [Act.put, List.setIfInBounds_toArray, List.set_cons_zero, List.set_cons_succ]
      refine take_run 4 (v := ?_) rfl (by kernel_rfl) (by kernel_rfl) (by kernel_rfl) (fun _ _ _ h => h) (by rfl) ?_ (by assumption) ?_
      rotate_left
      · (intro wx hSw; (try dsimp only at hSw); go_simp; try with_reducible rfl)
      try simp only [Act.put, List.setIfInBounds_toArray, List.set_cons_zero, List.set_cons_succ]
      refine take_run 5 (v := ?_) rfl (by kernel_rfl) (by kernel_rfl) (by kernel_rfl) (fun _ _ _ h => h) (by rfl) ?_ (by assumption) ?_
      rotate_left
      · (intro wx hSw; (try dsimp only at hSw); go_simp; try with_reducible rfl)
      try simp only [Act.put, List.setIfInBounds_toArray, List.set_cons_zero, List.set_cons_succ]
      refine take_call 6 rfl (by kernel_rfl) (fun K hK => ?_)
      go_simp
      have mL : Mod (fun g => g = bq ∨ qblk (f' m t) = some g) wK (wK.alloc (.cells #[.string data] 9)).drew := ((Mod.refl _ wK).alloc _).drew
      refine hK.out _ _ ?_ (fun hHeld2 => ?_)
      · exact ⟨(mL.cell (p := ⟨b, 9, none⟩) lb hnb).trans c9, (mL.cell (p := ⟨wA.heap.size, 0, none⟩) lK hnK).trans y0, (mL.cell (p := ⟨wA.heap.size, 1, none⟩) lK hnK).trans y1⟩
      clear hK K
      try simp only [Act.put, List.setIfInBounds_toArray, List.set_cons_zero, List.set_cons_succ]
      obtain ⟨w2, born, hr2, hM2, hE2, m2⟩ := (HMK.out.map.later (((Mod.refl (fun _ => False) wK).alloc (.cells #[.string data] 9)).drew) (by simp)).entry HMW.out HTW.out
      have mW2 : Mod (· = bq) wK w2 := (((Mod.refl (· = bq) wK).alloc (.cells #[.string data] 9)).drew).trans m2 (fun i _ e => e)
      have mW2' : Mod (fun g => g = bq ∨ qblk (f' m t) = some g) wK w2 := mW2.mono (fun i _ e => Or.inl e)
      have hL2 : w2.cell? ⟨wK.heap.size, 0, none⟩ = some (.string data) := (m2.cell (p := ⟨wK.heap.size, 0, none⟩) (by simp) (by have := HMK.out.map.lt; show ¬ wK.heap.size = bq; omega)).trans (by simp)
      refine take_call 7 rfl (by kernel_rfl) (fun K hK => ?_)
      refine step_entry rfl _ _ 64 rfl (by rfl) (by rfl) hr2 ?_
      refine hK.out _ _ ?_ (fun hHeld5 => ?_)
      · exact ⟨(mW2'.cell (p := ⟨b, 9, none⟩) lb hnb).trans c9, (mW2'.cell (p := ⟨wA.heap.size, 0, none⟩) lK hnK).trans y0, (mW2'.cell (p := ⟨wA.heap.size, 1, none⟩) lK hnK).trans y1⟩
      clear hK K
      try simp only [Act.put, List.setIfInBounds_toArray, List.set_cons_zero, List.set_cons_succ]
      refine take_run 8 (v := ?_) rfl (by kernel_rfl) (by kernel_rfl) (by kernel_rfl) (fun _ _ _ h => h) (by rfl) ?_ (by assumption) ?_
      rotate_left
      · (intro wx hSw; (try dsimp only at hSw); go_simp; try with_reducible rfl)
      try simp only [Act.put, List.setIfInBounds_toArray, List.set_cons_zero, List.set_cons_succ]
      refine take_run 10 (v := ?_) rfl (by kernel_rfl) (by kernel_rfl) (by kernel_rfl) (fun _ _ _ h => h) (by rfl) ?_ (by assumption) ?_
      rotate_left
      · (intro wx hSw; (try dsimp only at hSw); go_simp; try with_reducible rfl)
      try simp only [Act.put, List.setIfInBounds_toArray, List.set_cons_zero, List.set_cons_succ]
      have hQ3 : QS w2 (f' m t) (putQ Q m data (ts.take kk) m t) := (HMK.out.qs m t).later mW2 (fun g hg e => (HMK.out.sep _ _ _ hg).2.1 e)
      obtain ⟨v', w4, hr4, hq4, ⟨g', hg', hfr'⟩, m4⟩ := QS.append hQ3 hL2 (by have := HMK.out.qk (m : Int) t; omega) 48
      refine take_call 9 rfl (by kernel_rfl) (fun K hK => ?_)
      refine step_app rfl _ _ 48 rfl (by rfl) (by rfl) hr4 ?_
      have mW4 : Mod (fun g => g = bq ∨ qblk (f' m t) = some g) wK w4 := mW2.trans' m4 (fun i _ e => Or.inl e) (fun i hi e => Or.inr e)
      refine hK.out _ _ ?_ (fun hHeld3 => ?_)
      · exact ⟨(mW4.cell (p := ⟨b, 9, none⟩) lb hnb).trans c9, (mW4.cell (p := ⟨wA.heap.size, 0, none⟩) lK hnK).trans y0, (mW4.cell (p := ⟨wA.heap.size, 1, none⟩) lK hnK).trans y1⟩
      clear hK K
      try simp only [Act.put, List.setIfInBounds_toArray, List.set_cons_zero, List.set_cons_succ]
      obtain ⟨w5, hr5, hM5, m5⟩ := (hM2.later m4 (fun e => (HMK.out.sep _ _ _ e).2.1 rfl)).store (hE2.later m4 (fun e => (HMK.out.sep _ _ _ e).2.1 rfl)) v'
      refine take_call 11 rfl (by kernel_rfl) (fun K hK => ?_)
      refine step_estore rfl _ _ _ 64 rfl (by rfl) (by rfl) (by rfl) hr5 ?_
      have mW5 : Mod (fun g => g = bq ∨ qblk (f' m t) = some g) wK w5 := mW4.trans m5 (fun i _ e => Or.inl e)
      refine hK.out _ _ ?_ (fun hHeld4 => ?_)
      · exact ⟨(mW5.cell (p := ⟨b, 9, none⟩) lb hnb).trans c9, (mW5.cell (p := ⟨wA.heap.size, 0, none⟩) lK hnK).trans y0, (mW5.cell (p := ⟨wA.heap.size, 1, none⟩) lK hnK).trans y1⟩
      clear hK K
      try simp only [Act.put, List.setIfInBounds_toArray, List.set_cons_zero, List.set_cons_succ]
      refine wpAnyH_done (by kernel_rfl) ?_ _
      have hq5 : QS w5 v' (putQ Q m data (ts.take kk) m t ++ [data]) := hq4.later m5 (fun g hg e => by rw [hg'] at hg; simp only [Option.some.injEq] at hg; subst hg; rcases hfr' with h | h; exact (HMK.out.sep _ _ _ h).2.1 e; have := HMK.out.map.lt; have := mW2.size; omega)
      have hfr5 : qblk (f' m t) = some g' ∨ wK.heap.size ≤ g' := hfr'.imp id (fun h => Nat.le_trans mW2.size h)
      have hN := HMK.out.grow hM5 hq5 (by have := HMK.out.qk (m : Int) t; simp; omega) hg' hfr5 mW5
      rw [← HPQ.out] at hN
      have mA5 : Mod (fun g => own4 b bq bu bc f' g) wA w5 := (mK.mono (S' := fun g => own4 b bq bu bc f' g) (fun i hi e => e.elim)).trans mW5 (fun i hi e => by
        rcases e with e | e
        · exact Or.inr (Or.inl e)
        · exact Or.inr (Or.inr (Or.inr (Or.inr ⟨_, _, e⟩))))
      have hmod5 : Mod (own4 b bq bu bc f) w1 w5 := hmod.trans mA5 (fun i hi e => by
        rcases HOW.out i e with h | h
        · exact h
        · omega)
      have hsz5 : w1.heap.size ≤ wK.heap.size := Nat.le_trans hmod.size mK.size
      have hown5 : ∀ g, own4 b bq bu bc (upd2 f' m t v') g → own4 b bq bu bc f g ∨ w1.heap.size ≤ g := by
        rintro g (e | e | e | e | ⟨i, j, hg⟩)
        · exact Or.inl (Or.inl e)
        · exact Or.inl (Or.inr (Or.inl e))
        · exact Or.inl (Or.inr (Or.inr (Or.inl e)))
        · exact Or.inl (Or.inr (Or.inr (Or.inr (Or.inl e))))
        · unfold upd2 at hg
          split at hg
          · rw [hg'] at hg
            simp only [Option.some.injEq] at hg
            subst hg
            rcases hfr5 with h | h
            · exact HOW.out _ (Or.inr (Or.inr (Or.inr (Or.inr ⟨_, _, h⟩))))
            · exact Or.inr (Nat.le_trans hsz5 h)
          · exact HOW.out _ (Or.inr (Or.inr (Or.inr (Or.inr ⟨_, _, hg⟩))))
      have HN5 := Lib.hid hN
      have HO5 := Lib.hid hown5
      clear hN hown5 hq5 hfr5 hq4 hM5 hr4 hr5 hQ3
      go_wp2
      go_roundw
      case rel => exact ⟨kk + 1, _, by omega, by go_num, by rw [← Nat.add_assoc]; exact HN5.out, hmod5, HO5.out⟩
      case measure => simp [intOf]; omega
    · obtain rfl : kk = len := by omega
      have hfin : ts.take kk = ts := List.take_of_length_le (by have := HL.out; omega)
      have hMF := HMA.out
      rw [hfin] at hMF
      obtain ⟨-, -, -, -, -, -, -, -, -, -, c10, -⟩ := mdl_cells hMF
      have hu : wA.cell? ⟨bu, m, none⟩ = some (.int .i64 u) := by
        rw [hMF.ub.cell]
        have := HU.out
        simp [List.getD_eq_getElem?_getD, List.getElem?_eq_getElem hm] at this
        simp [List.getElem?_eq_getElem hm, this]
      have fu := hMF.ub.fz m
      have u1 : IntKind.i64.wrap (u + (kk : Int)) = u + (kk : Int) := IntWalk.i64_in _ (by omega)
      have hN := hMF.setU (m := m) (x := u + (kk : Int)) (Nat.le_refl _) (by omega)
      have hMod2 : Mod (own4 b bq bu bc f) w (wA.setCell ⟨bu, m, none⟩ (.int .i64 (u + (kk : Int)))) := ((hmq.mono (S' := own4 b bq bu bc f) (fun i hi e => e.elim)).trans hmod (fun i hi e => e)).setCell (p := ⟨bu, m, none⟩) (Or.inl (Or.inr (Or.inr (Or.inl rfl)))) _
      have HN := Lib.hid hN
      clear hN hfin hMF
      go_wp2
      go_ret
      exact Or.inr (Or.inr ⟨hd2, hfu2, rfl, hMod2, f', HN.out, fun g hg => by have := HOW.out g hg; rw [HSZ.out] at this; exact this⟩)

end Go.Proofs.Ytonnooenebfbeaa
