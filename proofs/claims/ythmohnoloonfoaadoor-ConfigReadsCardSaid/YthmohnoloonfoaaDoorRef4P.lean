/- The reference's parser of a config's text, as a plain function; it answers as the program's. -/
import Derived.Test.YthmohnoloonfoaaDoorRef4N
namespace Go.Proofs.YthmohnoloonfoaaDoor
open Go.RowKit

def wStep (st : List (List UInt8) × List UInt8) (b : UInt8) : List (List UInt8) × List UInt8 := if b = 32 ∨ (b = 120 ∧ st.1 = []) then (st.1 ++ [st.2], []) else (st.1, st.2 ++ [b])
def wFold (l : List UInt8) : List (List UInt8) × List UInt8 := l.foldl wStep ([], [])
def refWords (l : List UInt8) : List (List UInt8) := (wFold l).1 ++ [(wFold l).2]

theorem fold_free : ∀ (x : List UInt8) (st : List (List UInt8) × List UInt8), (32 : UInt8) ∉ x → ((120 : UInt8) ∉ x ∨ st.1 ≠ []) → x.foldl wStep st = (st.1, st.2 ++ x)
  | [], st, _, _ => by simp
  | b :: x, st, h, h2 => by
    have hb : b ≠ 32 := fun e => h (by simp [e])
    have hb2 : ¬ (b = 32 ∨ (b = 120 ∧ st.1 = [])) := by
      rintro (e | ⟨e, e2⟩)
      · exact hb e
      · rcases h2 with h2 | h2
        · exact h2 (by simp [e])
        · exact h2 e2
    rw [List.foldl_cons]
    unfold wStep
    rw [if_neg hb2]
    have := fold_free x (st.1, st.2 ++ [b]) (fun hm => h (by simp [hm])) (h2.imp (fun h2 hm => h2 (by simp [hm])) id)
    unfold wStep at this
    rw [this]
    simp
theorem fold_join : ∀ (l : List (List UInt8)) (ws : List (List UInt8)), l ≠ [] → ws ≠ [] → (∀ x ∈ l, (32 : UInt8) ∉ x) → ((Lib.join l [32]).foldl wStep (ws, [])).1 ++ [((Lib.join l [32]).foldl wStep (ws, [])).2] = ws ++ l
  | [x], ws, _, hw, h => by
    rw [Lib.join_one, fold_free x _ (h x (by simp)) (Or.inr hw)]
    simp
  | x :: y :: l, ws, _, hw, h => by
    rw [join_cc, List.foldl_append, fold_free x _ (h x (by simp)) (Or.inr hw), List.foldl_cons]
    have e : wStep (ws, [] ++ x) 32 = (ws ++ [x], []) := by simp [wStep]
    rw [e, fold_join (y :: l) (ws ++ [x]) (by simp) (by simp) (fun z hz => h z (List.mem_cons_of_mem _ hz))]
    simp
theorem refWords_txt (c : Cfg) : refWords c.txt = Lib.itoa c.W :: c.wordsL := by
  unfold refWords wFold Cfg.txt
  rw [List.append_assoc, List.foldl_append, fold_free (Lib.itoa c.W) _ (itoa_free _ 32 (by unfold digB; decide) (by decide)) (Or.inl (itoa_free _ 120 (by unfold digB; decide) (by decide))), List.foldl_append]
  have e : ([120] : List UInt8).foldl wStep ([], [] ++ Lib.itoa c.W) = ([Lib.itoa c.W], []) := by simp [wStep]
  rw [e, fold_join _ _ (by simp [Cfg.wordsL, Cfg.nums]) (by simp) (wordsL_free c)]
  rfl

theorem numR_itoa (n : Int) (h : (Lit.int .i64 n).wf = true) : numR (Lib.itoa n) = if shortN n then some n else none := by
  have hT : numTail (Lib.itoa n) = Lib.decDigits n.natAbs := by
    unfold numTail Lib.itoa
    by_cases hn : n < 0
    · rw [if_pos hn]
      simp
    · rw [if_neg hn, show n.toNat = n.natAbs by omega]
      have h3 := dec_dig n.natAbs
      generalize Lib.decDigits n.natAbs = l at h3
      rw [if_neg]
      intro h1
      match l with
      | [] => cases h1
      | c :: r =>
        simp at h1
        subst h1
        exact absurd (h3 45 (by simp)) (by unfold digB; decide)
  have hS : ∀ v : Nat, numSign (Lib.itoa n) v = if n < 0 then -(v : Int) else v := by
    intro v
    unfold numSign Lib.itoa
    by_cases hn : n < 0
    · simp [hn]
    · rw [if_neg hn, if_neg hn, if_neg]
      intro h1
      have h3 := dec_dig n.toNat
      generalize Lib.decDigits n.toNat = l at h1 h3
      match l with
      | [] => cases h1
      | c :: r =>
        simp at h1
        subst h1
        exact absurd (h3 45 (by simp)) (by unfold digB; decide)
  unfold numR
  rw [hT, hS]
  have hd := dec_dig n.natAbs
  have hd2 : ∀ c ∈ (Lib.decDigits n.natAbs).take 10, digB c := fun c hc => hd c (List.mem_of_mem_take hc)
  by_cases h9 : shortN n
  · have e : (Lib.decDigits n.natAbs).take 10 = Lib.decDigits n.natAbs := List.take_of_length_le (by unfold shortN at h9; omega)
    rw [e, dec_val]
    have e2 : (if n < 0 then -((n.natAbs : Nat) : Int) else ((n.natAbs : Nat) : Int)) = n := by split <;> omega
    rw [e2, if_pos ⟨hd, h9, rfl⟩, if_pos h9]
  · rw [if_neg (fun h => h9 h.2.1), if_neg h9]
theorem numR_wf {l : List UInt8} {v : Int} (h : numR l = some v) : (Lit.int .i64 v).wf = true := by
  unfold numR at h
  split at h
  · rename_i hc
    have hb := valL_small hc.1 (by simp; omega)
    cases h
    unfold numSign
    simp [Lit.wf, IntKind.min, IntKind.max, IntKind.signed, IntKind.bits]
    split <;> omega
  · cases h

def numsR (W : List (List UInt8)) : List Int := (List.range 7).map fun j => (numR (W.getD j [])).getD 0
def mkR (xs : List Int) (W : List (List UInt8)) : Cfg := ⟨xs.getD 0 0, xs.getD 1 0, xs.getD 2 0, xs.getD 3 0, xs.getD 4 0, xs.getD 5 0, xs.getD 6 0, decide (westL ∈ W.drop 7), decide (castL ∈ W.drop 7)⟩
def OkR (W : List (List UInt8)) : Prop := 7 ≤ W.length ∧ ∀ j, j < 7 → ∃ y, numR (W.getD j []) = some y
open Classical in
noncomputable def rr (s : ByteArray) : Cfg × Int := if OkR (refWords s.data.toList) then endC (mkR (numsR (refWords s.data.toList)) (refWords s.data.toList)) s else (zeroC, 2)
theorem rr_no {s : ByteArray} (h : ¬ OkR (refWords s.data.toList)) : rr s = (zeroC, 2) := by unfold rr; rw [if_neg h]
theorem rr_yes {s : ByteArray} (h : OkR (refWords s.data.toList)) : rr s = endC (mkR (numsR (refWords s.data.toList)) (refWords s.data.toList)) s := by unfold rr; rw [if_pos h]
theorem numsR_is {W : List (List UInt8)} {xs : List Int} (hl : xs.length = 7) (h : ∀ j, j < 7 → numR (W.getD j []) = xs[j]?) : numsR W = xs := by
  unfold numsR
  apply List.ext_getElem (by simp [hl])
  intro j h1 h2
  have hj : j < 7 := by simpa using h1
  simp only [List.getElem_map, List.getElem_range]
  rw [h j hj, List.getElem?_eq_getElem h2]
  rfl

theorem mkR_wf {W : List (List UInt8)} (h : OkR W) : (mkR (numsR W) W).wf := by
  intro n hn
  have hx : ∀ j, j < 7 → (Lit.int .i64 ((numsR W).getD j 0)).wf = true := by
    intro j hj
    obtain ⟨y, hy⟩ := h.2 j hj
    have e : (numsR W).getD j 0 = y := by
      unfold numsR
      rw [List.getD_eq_getElem?_getD, List.getElem?_map, List.getElem?_range hj]
      show (numR (W.getD j [])).getD 0 = y
      rw [hy]
      rfl
    rw [e]
    exact numR_wf hy
  simp only [List.mem_cons, List.not_mem_nil, or_false] at hn
  rcases hn with rfl | rfl | rfl | rfl | rfl | rfl | rfl
  · exact hx 0 (by omega)
  · exact hx 1 (by omega)
  · exact hx 2 (by omega)
  · exact hx 3 (by omega)
  · exact hx 4 (by omega)
  · exact hx 5 (by omega)
  · exact hx 6 (by omega)

theorem numR_txt (c : Cfg) (hc : c.wf) (j : Nat) (hj : j < 7) : numR ((refWords c.txt).getD j []) = if shortN (c.seven.getD j 0) then some (c.seven.getD j 0) else none := by
  rw [refWords_txt]
  have hw : ∀ k, k < 7 → (Lit.int .i64 (c.seven.getD k 0)).wf = true := by
    intro k hk
    match k, hk with
    | 0, _ => exact hc _ (by simp [Cfg.seven])
    | 1, _ => exact hc _ (by simp [Cfg.seven])
    | 2, _ => exact hc _ (by simp [Cfg.seven])
    | 3, _ => exact hc _ (by simp [Cfg.seven])
    | 4, _ => exact hc _ (by simp [Cfg.seven])
    | 5, _ => exact hc _ (by simp [Cfg.seven])
    | 6, _ => exact hc _ (by simp [Cfg.seven])
  rw [← numR_itoa _ (hw j hj)]
  match j, hj with
  | 0, _ => rfl
  | 1, _ => rfl
  | 2, _ => rfl
  | 3, _ => rfl
  | 4, _ => rfl
  | 5, _ => rfl
  | 6, _ => rfl
theorem mkR_txt (c : Cfg) : mkR c.seven (refWords c.txt) = c := by
  rw [refWords_txt]
  obtain ⟨W, H, La, D, R, I, B, we, ca⟩ := c
  unfold mkR
  have e : (Lib.itoa W :: (⟨W, H, La, D, R, I, B, we, ca⟩ : Cfg).wordsL).drop 7 = ((if we then [westL] else []) ++ (if ca then [castL] else [])) := by
    simp [Cfg.wordsL, Cfg.nums]
  rw [e]
  have h1 : decide (westL ∈ ((if we then [westL] else []) ++ (if ca then [castL] else []) : List (List UInt8))) = we := by
    cases we <;> cases ca <;> decide +kernel
  have h2 : decide (castL ∈ ((if we then [westL] else []) ++ (if ca then [castL] else []) : List (List UInt8))) = ca := by
    cases we <;> cases ca <;> decide +kernel
  rw [h1, h2]
  rfl

theorem rr_txt (c : Cfg) (hc : c.wf) : rr (mkS c.txt) = if c.shorts then (if c.chk = 0 then (c, 0) else (zeroC, c.chk)) else (zeroC, 2) := by
  have e1 : (mkS c.txt).data.toList = c.txt := by simp
  split
  · rename_i hs
    have hall : ∀ j, j < 7 → numR ((refWords c.txt).getD j []) = c.seven[j]? := by
      intro j hj
      rw [numR_txt c hc j hj]
      have hget : c.seven[j]? = some (c.seven.getD j 0) := by
        rw [List.getD_eq_getElem?_getD, List.getElem?_eq_getElem (by simpa [Cfg.seven] using hj)]
        rfl
      rw [hget, if_pos]
      exact hs _ (List.mem_of_getElem? hget)
    have hok : OkR (refWords (mkS c.txt).data.toList) := by
      rw [e1]
      exact ⟨by rw [refWords_txt]; simp [Cfg.wordsL, Cfg.nums], fun j hj => ⟨_, (hall j hj).trans (List.getElem?_eq_getElem (by simpa [Cfg.seven] using hj))⟩⟩
    rw [rr_yes hok, e1, numsR_is (xs := c.seven) rfl hall, mkR_txt]
    unfold endC
    rw [if_pos e1.symm]
  · rename_i hs
    rw [rr_no]
    rw [e1]
    rintro ⟨-, h⟩
    apply hs
    intro n hn
    obtain ⟨j, hj, rfl⟩ := List.getElem_of_mem hn
    have hj7 : j < 7 := by simpa using hj
    obtain ⟨y, hy⟩ := h j hj7
    rw [numR_txt c hc j hj7] at hy
    split at hy
    · rename_i h1
      have : c.seven.getD j 0 = [c.W, c.H, c.Lanes, c.Depth, c.Ring, c.Inbox, c.Bound][j] := by
        rw [List.getD_eq_getElem?_getD]
        show ([c.W, c.H, c.Lanes, c.Depth, c.Ring, c.Inbox, c.Bound][j]?).getD 0 = _
        rw [List.getElem?_eq_getElem hj]
        rfl
      rw [← this]
      exact h1
    · cases hy

theorem mkCfg_wf {ws : List ByteArray} (h : NumsOk ws) : (mkCfg (numsOf ws) ws).wf := by
  intro n hn
  have hx : ∀ j, j < 7 → (Lit.int .i64 ((numsOf ws).getD j 0)).wf = true := by
    intro j hj
    obtain ⟨y, hy⟩ := h.2 j hj
    have e : (numsOf ws).getD j 0 = y := by
      unfold numsOf
      rw [List.getD_eq_getElem?_getD, List.getElem?_map, List.getElem?_range hj]
      show (numAt ws j).getD 0 = y
      rw [hy]
      rfl
    rw [e]
    exact numOk_wf hy
  simp only [List.mem_cons, List.not_mem_nil, or_false] at hn
  rcases hn with rfl | rfl | rfl | rfl | rfl | rfl | rfl
  · exact hx 0 (by omega)
  · exact hx 1 (by omega)
  · exact hx 2 (by omega)
  · exact hx 3 (by omega)
  · exact hx 4 (by omega)
  · exact hx 5 (by omega)
  · exact hx 6 (by omega)

/-- The two parsers answer alike. -/
theorem rr_rd (s : ByteArray) : rr s = rd s := by
  by_cases h : ∃ c : Cfg, c.wf ∧ c.txt = s.data.toList
  · obtain ⟨c, hc, ht⟩ := h
    have e : s = mkS c.txt := by rw [ht]
    rw [e, rr_txt c hc, rd_txt c hc]
  · have h1 : rr s = (zeroC, 2) := by
      by_cases hk : OkR (refWords s.data.toList)
      · rw [rr_yes hk]
        unfold endC
        rw [if_neg (fun e => h ⟨_, mkR_wf hk, e⟩)]
      · exact rr_no hk
    have h2 : rd s = (zeroC, 2) := by
      by_cases hk : NumsOk (wordsB s)
      · rw [rd_yes hk]
        unfold endC
        rw [if_neg (fun e => h ⟨_, mkCfg_wf hk, e⟩)]
      · exact rd_no hk
    rw [h1, h2]

end Go.Proofs.YthmohnoloonfoaaDoor
