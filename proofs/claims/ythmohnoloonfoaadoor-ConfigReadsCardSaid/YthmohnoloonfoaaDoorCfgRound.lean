/- A config's text is read back: the plain laws. -/
import Derived.Test.YthmohnoloonfoaaDoorCfgRead
import Derived.Lib.SplitLaws
import Derived.Lib.AtoiAllCases
namespace Go.Proofs.YthmohnoloonfoaaDoor
open Go.RowKit

def digB (c : UInt8) : Prop := 48 ≤ c.toNat ∧ c.toNat ≤ 57
def valL (acc : Nat) (l : List UInt8) : Nat := l.foldl (fun a c => a * 10 + (c.toNat - 48)) acc
theorem valL_ge : ∀ (l : List UInt8) (acc : Nat), acc ≤ valL acc l
  | [], _ => Nat.le_refl _
  | c :: l, acc => Nat.le_trans (by omega) (valL_ge l (acc * 10 + (c.toNat - 48)))
theorem valL_append (a b : List UInt8) (acc : Nat) : valL acc (a ++ b) = valL (valL acc a) b := by simp [valL]
theorem parse_digits : ∀ (l : List UInt8) (acc : Nat), (∀ c ∈ l, digB c) → valL acc l < 18446744073709551616 → Lib.parseUint10 acc l = .ok (valL acc l)
  | [], _, _, _ => rfl
  | c :: l, acc, h, hv => by
    have hc := h c (by simp)
    have hg := valL_ge l (acc * 10 + (c.toNat - 48))
    have e : valL acc (c :: l) = valL (acc * 10 + (c.toNat - 48)) l := rfl
    rw [e] at hv ⊢
    unfold Lib.parseUint10
    rw [if_pos (show 48 ≤ c.toNat ∧ c.toNat ≤ 57 from hc), if_neg (by omega), if_neg (by omega)]
    exact parse_digits l _ (fun x hx => h x (by simp [hx])) hv

theorem ofNat_dig {k : Nat} (h : k < 10) : (UInt8.ofNat (48 + k)).toNat = 48 + k := by
  simp
  omega
theorem dec_dig (u : Nat) : ∀ c ∈ Lib.decDigits u, digB c := by
  induction u using Nat.strongRecOn with
  | _ u ih =>
    rw [Lib.decDigits]
    split
    · intro c hc
      obtain rfl : c = UInt8.ofNat (48 + u) := by simpa using hc
      unfold digB
      rw [ofNat_dig (by omega)]
      omega
    · intro c hc
      rcases List.mem_append.1 hc with hc | hc
      · exact ih _ (by omega) c hc
      · obtain rfl : c = UInt8.ofNat (48 + u % 10) := by simpa using hc
        unfold digB
        rw [ofNat_dig (by omega)]
        omega
theorem dec_val (u : Nat) : valL 0 (Lib.decDigits u) = u := by
  induction u using Nat.strongRecOn with
  | _ u ih =>
    rw [Lib.decDigits]
    split
    · simp only [valL, List.foldl_cons, List.foldl_nil]
      rw [ofNat_dig (by omega)]
      omega
    · rw [valL_append, ih _ (by omega)]
      simp only [valL, List.foldl_cons, List.foldl_nil]
      rw [ofNat_dig (by omega)]
      omega
theorem dec_ne (u : Nat) : Lib.decDigits u ≠ [] := by
  rw [Lib.decDigits]
  split <;> simp
theorem mag_dec (u : Nat) (h : u < 18446744073709551616) : Lib.parseMag (Lib.decDigits u) = .ok u := by
  unfold Lib.parseMag
  rw [if_neg (dec_ne u), parse_digits _ 0 (dec_dig u) (by rw [dec_val]; exact h), dec_val]

theorem atoi_itoa (n : Int) (h : (Lit.int .i64 n).wf = true) : Lib.atoiAll (Lib.itoa n) = .ok n := by
  have hb := bounds_i64 h
  unfold Lib.itoa
  split
  · rw [Lib.atoiAll_minus, mag_dec _ (by omega)]
    simp only [Lib.signed]
    rw [if_neg (by omega)]
    congr 1
    omega
  · have h1 := mag_dec n.toNat (by omega)
    have h2 := dec_dig n.toNat
    have h3 := dec_ne n.toNat
    generalize Lib.decDigits n.toNat = l at h1 h2 h3 ⊢
    match l, h3 with
    | c :: r, _ =>
      have hc := h2 c (by simp)
      unfold digB at hc
      rw [Lib.atoiAll_plain c r (by omega) (by omega), h1]
      simp only [Lib.signless]
      rw [if_neg (by omega)]
      congr 1
      omega

def shortN (n : Int) : Prop := (Lib.decDigits n.natAbs).length ≤ 9
instance (n : Int) : Decidable (shortN n) := by unfold shortN; infer_instance
theorem trim_itoa (n : Int) : Lib.trimPrefix (Lib.itoa n) [45] = Lib.decDigits n.natAbs := by
  unfold Lib.itoa Lib.trimPrefix
  split
  · simp [Lib.hasPrefix]
  · have e : n.toNat = n.natAbs := by omega
    rw [e]
    have h2 := dec_dig n.natAbs
    have h3 := dec_ne n.natAbs
    generalize Lib.decDigits n.natAbs = l at h2 h3 ⊢
    match l, h3 with
    | c :: r, _ =>
      have hc := h2 c (by simp)
      unfold digB at hc
      have hne : c ≠ 45 := fun e => by subst e; simp at hc
      rw [if_neg]
      simp [Lib.hasPrefix, List.isPrefixOf]
      exact Ne.symm hne
theorem numOk_itoa (n : Int) (h : (Lit.int .i64 n).wf = true) : numOk (Lib.itoa n) = if shortN n then some n else none := by
  unfold numOk
  rw [atoi_itoa n h, trim_itoa]
  rfl

theorem itoa_bytes (n : Int) : ∀ c ∈ Lib.itoa n, digB c ∨ c = 45 := by
  unfold Lib.itoa
  split
  · intro c hc
    rcases List.mem_cons.1 hc with rfl | hc
    · exact Or.inr rfl
    · exact Or.inl (dec_dig _ c hc)
  · exact fun c hc => Or.inl (dec_dig _ c hc)
theorem itoa_free (n : Int) (b : UInt8) (hb : ¬ digB b) (h45 : b ≠ 45) : b ∉ Lib.itoa n := fun h => by
  rcases itoa_bytes n b h with h | h
  · exact hb h
  · exact h45 h

theorem index_at (c : UInt8) (b : List UInt8) : ∀ a : List UInt8, c ∉ a → Lib.index (a ++ c :: b) [c] = (a.length : Int)
  | [], _ => by simp [Lib.index, List.isPrefixOf]
  | x :: a, h => by
    have hx : c ≠ x := fun e => h (by simp [e])
    have ih := index_at c b a (fun hm => h (by simp [hm]))
    rw [List.cons_append, Lib.index]
    have hp : ([c] : List UInt8).isPrefixOf (x :: (a ++ c :: b)) = false := by simp [List.isPrefixOf, hx]
    rw [hp, ih]
    simp
    try omega
theorem index_not (c : UInt8) : ∀ a : List UInt8, c ∉ a → Lib.index a [c] = -1
  | [], _ => by simp [Lib.index]
  | x :: a, h => by
    have hx : c ≠ x := fun e => h (by simp [e])
    have ih := index_not c a (fun hm => h (by simp [hm]))
    have hp : ([c] : List UInt8).isPrefixOf (x :: a) = false := by simp [List.isPrefixOf, hx]
    rw [Lib.index, hp, ih]
    simp
theorem cut_at (c : UInt8) (a b : List UInt8) (h : c ∉ a) : Lib.cut (a ++ c :: b) [c] = (a, b, true) := by
  unfold Lib.cut
  rw [index_at c b a h, if_pos (by omega)]
  simp

theorem join_cc (x y : List UInt8) (l : List (List UInt8)) : Lib.join (x :: y :: l) [32] = x ++ 32 :: Lib.join (y :: l) [32] := by
  simp [Lib.join, List.intercalate, List.intersperse]
theorem join_count : ∀ (l : List (List UInt8)), l ≠ [] → (∀ x ∈ l, (32 : UInt8) ∉ x) → Lib.count (Lib.join l [32]) [32] + 1 = l.length
  | [x], _, h => by
    have := h x (by simp)
    rw [Lib.join_one, Lib.count_one, List.count_eq_zero.2 this]
    rfl
  | x :: y :: l, _, h => by
    have ih := join_count (y :: l) (by simp) (fun z hz => h z (List.mem_cons_of_mem _ hz))
    have hx := h x (by simp)
    rw [Lib.count_one] at ih ⊢
    rw [join_cc, List.count_append, List.count_eq_zero.2 hx, List.count_cons_self]
    simp at ih ⊢
    omega
theorem splitK_join : ∀ (l : List (List UInt8)) (k : Nat), l.length = k + 1 → (∀ x ∈ l, (32 : UInt8) ∉ x) → Lib.splitK [32] 0 k (Lib.join l [32]) = l
  | [x], 0, _, _ => by rw [Lib.join_one]; rfl
  | x :: y :: l, k + 1, hl, h => by
    have ih := splitK_join (y :: l) k (by simpa using hl) (fun z hz => h z (List.mem_cons_of_mem _ hz))
    have hx := h x (by simp)
    unfold Lib.splitK
    rw [join_cc, index_at 32 _ x hx]
    have hne : ¬ (((x.length : Int)) == -1) = true := by simp
    rw [if_neg hne]
    simp
    exact ih
  | [], k, hl, _ => by simp at hl
  | [x], k + 1, hl, _ => by simp at hl
  | x :: y :: l, 0, hl, _ => by simp at hl

theorem mkS_data (b : ByteArray) : mkS b.data.toList = b := rfl
theorem splitB_join (l : List (List UInt8)) (hn : l ≠ []) (h : ∀ x ∈ l, (32 : UInt8) ∉ x) : Lib.splitB spB 0 (Lib.countB (mkS (Lib.join l [32])) spB) (mkS (Lib.join l [32])) = l.map mkS := by
  have hc := join_count l hn h
  have hd := Lib.splitB_data spB 0 (Lib.countB (mkS (Lib.join l [32])) spB) (mkS (Lib.join l [32]))
  have e1 : (mkS (Lib.join l [32])).data.toList = Lib.join l [32] := by simp
  have e2 : spB.data.toList = [32] := rfl
  have e3 : Lib.countB (mkS (Lib.join l [32])) spB = Lib.count (Lib.join l [32]) [32] := by
    show Lib.count _ _ = _
    rw [e1, e2]
  rw [e3, e2, e1, splitK_join l _ hc.symm h] at hd
  rw [e3]
  have h2 := congrArg (List.map mkS) hd
  rw [List.map_map] at h2
  rw [← h2]
  have e4 : (mkS ∘ fun b : ByteArray => b.data.toList) = id := funext fun b => mkS_data b
  rw [e4, List.map_id]

theorem wordsL_free (c : Cfg) : ∀ x ∈ c.wordsL, (32 : UInt8) ∉ x := by
  intro x hx
  unfold Cfg.wordsL at hx
  rcases List.mem_append.1 hx with hx | hx
  · rcases List.mem_append.1 hx with hx | hx
    · obtain ⟨n, -, rfl⟩ := List.mem_map.1 hx
      exact itoa_free n 32 (by unfold digB; decide) (by decide)
    · split at hx
      · obtain rfl : x = westL := by simpa using hx
        decide
      · simp at hx
  · split at hx
    · obtain rfl : x = castL := by simpa using hx
      decide
    · simp at hx
theorem words_txt (c : Cfg) : wordsB (mkS c.txt) = mkS (Lib.itoa c.W) :: c.wordsL.map mkS := by
  have e1 : (mkS c.txt).data.toList = Lib.itoa c.W ++ 120 :: Lib.join c.wordsL [32] := by simp [Cfg.txt]
  have hcut := cut_at 120 (Lib.itoa c.W) (Lib.join c.wordsL [32]) (itoa_free _ 120 (by unfold digB; decide) (by decide))
  unfold wordsB restB
  rw [e1, hcut]
  simp only
  rw [splitB_join c.wordsL (by simp [Cfg.wordsL, Cfg.nums]) (wordsL_free c)]

def Cfg.shorts (c : Cfg) : Prop := ∀ n ∈ [c.W, c.H, c.Lanes, c.Depth, c.Ring, c.Inbox, c.Bound], shortN n
instance (c : Cfg) : Decidable c.shorts := by unfold Cfg.shorts; infer_instance
def Cfg.seven (c : Cfg) : List Int := [c.W, c.H, c.Lanes, c.Depth, c.Ring, c.Inbox, c.Bound]
theorem numAt_txt (c : Cfg) (hc : c.wf) (j : Nat) (hj : j < 7) : numAt (wordsB (mkS c.txt)) j = if shortN (c.seven.getD j 0) then some (c.seven.getD j 0) else none := by
  rw [words_txt]
  have hw : ∀ k, k < 7 → (Lit.int .i64 (c.seven.getD k 0)).wf = true := by
    intro k hk
    match k, hk with
    | 0, _ => exact hc _ (by simp [Cfg.seven])
    | 1, _ => exact hc _ (by simp [Cfg.seven])
    | 2, _ => exact hc _ (by simp [Cfg.seven])
    | 3, _ => exact hc _ (by simp [Cfg.seven])
    | 4, _ => exact hc _ (by simp [Cfg.seven])
    | 5, _ => exact hc _ (by simp [Cfg.seven])
    | 6, _ => exact hc _ (by simp [Cfg.seven])
  rw [← numOk_itoa _ (hw j hj)]
  unfold numAt
  match j, hj with
  | 0, _ => rfl
  | 1, _ => rfl
  | 2, _ => rfl
  | 3, _ => rfl
  | 4, _ => rfl
  | 5, _ => rfl
  | 6, _ => rfl
theorem mk_txt (c : Cfg) : mkCfg c.seven (wordsB (mkS c.txt)) = c := by
  rw [words_txt]
  obtain ⟨W, H, La, D, R, I, B, we, ca⟩ := c
  unfold mkCfg
  have e : (mkS (Lib.itoa W) :: (⟨W, H, La, D, R, I, B, we, ca⟩ : Cfg).wordsL.map mkS).drop 7 = ((if we then [westL] else []) ++ (if ca then [castL] else [])).map mkS := by
    simp [Cfg.wordsL, Cfg.nums]
  rw [e]
  have h1 : Lib.containsS (((if we then [westL] else []) ++ (if ca then [castL] else [])).map mkS) westB = we := by
    cases we <;> cases ca <;> decide +kernel
  have h2 : Lib.containsS (((if we then [westL] else []) ++ (if ca then [castL] else [])).map mkS) castB = ca := by
    cases we <;> cases ca <;> decide +kernel
  rw [h1, h2]
  rfl

/-- A config's text, read: itself, if its numbers are short ones and it may be. -/
theorem rd_txt (c : Cfg) (hc : c.wf) : rd (mkS c.txt) = if c.shorts then (if c.chk = 0 then (c, 0) else (zeroC, c.chk)) else (zeroC, 2) := by
  have e1 : (mkS c.txt).data.toList = c.txt := by simp
  split
  · rename_i hs
    have hall : ∀ j, j < 7 → numAt (wordsB (mkS c.txt)) j = c.seven[j]? := by
      intro j hj
      rw [numAt_txt c hc j hj]
      have hget : c.seven[j]? = some (c.seven.getD j 0) := by
        rw [List.getD_eq_getElem?_getD, List.getElem?_eq_getElem (by simpa [Cfg.seven] using hj)]
        rfl
      rw [hget, if_pos]
      exact hs _ (List.mem_of_getElem? hget)
    have hok : NumsOk (wordsB (mkS c.txt)) := ⟨by rw [words_txt]; simp [Cfg.wordsL, Cfg.nums], fun j hj => ⟨_, (hall j hj).trans (List.getElem?_eq_getElem (by simpa [Cfg.seven] using hj))⟩⟩
    rw [rd_yes hok, numsOf_is (xs := c.seven) rfl hall, mk_txt]
    unfold endC
    rw [if_pos e1.symm]
  · rename_i hs
    rw [rd_no]
    rintro ⟨-, h⟩
    apply hs
    intro n hn
    obtain ⟨j, hj, rfl⟩ := List.getElem_of_mem hn
    have hj7 : j < 7 := by simpa using hj
    obtain ⟨y, hy⟩ := h j hj7
    rw [numAt_txt c hc j hj7] at hy
    split at hy
    · rename_i h1
      have : c.seven.getD j 0 = [c.W, c.H, c.Lanes, c.Depth, c.Ring, c.Inbox, c.Bound][j] := by
        rw [List.getD_eq_getElem?_getD]
        show ([c.W, c.H, c.Lanes, c.Depth, c.Ring, c.Inbox, c.Bound][j]?).getD 0 = _
        rw [List.getElem?_eq_getElem hj]
        rfl
      rw [← this]
      exact h1
    · cases hy

end Go.Proofs.YthmohnoloonfoaaDoor
