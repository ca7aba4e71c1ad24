/- Parts: QTail RouterG Class RouterH RouterI RouterJ Index. No condition. -/
import Derived.Test.YtfiklfkfbcpmgaaGreatJ09
import Derived.StillTail
import Derived.Deep.QuietTactic
import Derived.Test.YtfiklfkfbcpmgaaGreatJ04
import Derived.Test.YtfiklfkfbcpmgaaGreatJ01
import Derived.Deep.MidRow
set_option linter.all false
set_option maxRecDepth 100000
set_option maxHeartbeats 3200000
namespace Go.Proofs.YtfiklfkfbcpmgaaGreat
section
variable {P : Program} {ops : Array Oper} {md : Region.Mode} {C : World→Prop}
def headQ (P : Program) (md : Region.Mode) (ops : Array Oper) (C : World→Prop) (n : Nat) (L : Array Bool→Act→Prop) : Nat→Array Bool→Act→Prop
 | 0,listed,a => L listed a
 | f + 1,listed,a => Region.ready md ops listed ≠ []∧∀ i ∈ Region.ready md ops listed,i < n∧qOp P ops C i (headQ P md ops C n L f (listed.setIfInBounds i true)) a
theorem headQ_any {n g : Nat} {L : Array Bool→Act→Prop} {Q' : Exit→Act→World→Prop} (hL : ∀ listed a w,C w→L listed a→wpAny P md ops Q' g listed a w) :
  ∀ (f : Nat) (listed : Array Bool) (a : Act) (w : World),C w→headQ P md ops C n L f listed a→wpAny P md ops Q' (f + g) listed a w := by
 intro f
 induction f with
 | zero => intro listed a w hw h; rw [Nat.zero_add]; exact hL _ _ _ hw h
 | succ f ih =>
  intro listed a w hw h
  rw [show f + 1 + g = (f + g) + 1 by omega]
  exact ⟨fun h0 => absurd h0 h.1,fun i hi => wpOp_of_qOp hw (fun a' w' hw' h' => ih _ a' w' hw' h') (h.2 i hi).2⟩
theorem headQ_take {n i : Nat} {oi : Oper} {v : Value} {L : Array Bool→Act→Prop} (hi : ops[i]? = some oi) (hsel : ∀ (j : Nat) (o : Oper) cs b,ops[j]? = some o→o.op ≠ .select cs b)
  (hs : Region.sinkB md ops n = true) (hc : Region.chainB md ops n = true) (hn : n < ops.size) (hin : i < n)
  (hdone : ∀ listed a,L listed a→∀ j ∈ Region.ready md ops listed,n ≤ j) :
  ∀ (f : Nat) (listed : Array Bool) (a : Act),HeadInv md ops n listed →
   (∀ j oj,ops[j]? = some oj→j ≠ i→listed.getD j true = false→(∀ e ∈ oj.after,Region.binds md e = true→e.on ≠ i)→oi.apart ops oj = true) →
   i ∈ Region.ready md ops listed→YieldsIn P ops C oi v a →
   headQ P md ops C n L f (listed.setIfInBounds i true) (a.put oi.dst v)→headQ P md ops C n L (f + 1) listed a := by
 intro f
 induction f with
 | zero =>
  intro listed a inv _ hr hy H
  have hun := (mem_ready.1 hr).1
  refine ⟨fun h => (by rw [h] at hr; cases hr),fun j hj => ?_⟩
  have hjn : j < n := Nat.lt_of_not_le fun h => tail_waits hs hc hn inv _ i rfl hin hun j h hj
  refine ⟨hjn,?_⟩
  by_cases hji : j = i
  ·
   subst hji; exact hy.qOp hi H
  ·
   have := hdone _ _ H j (ready_mono hj hji)
   omega
 | succ f ih =>
  intro listed a inv hfree hr hy H
  have hun := (mem_ready.1 hr).1
  refine ⟨fun h => (by rw [h] at hr; cases hr),fun j hj => ?_⟩
  have hjn : j < n := Nat.lt_of_not_le fun h => tail_waits hs hc hn inv _ i rfl hin hun j h hj
  refine ⟨hjn,?_⟩
  by_cases hji : j = i
  ·
   subst hji; exact hy.qOp hi H
  obtain ⟨hjun,oj,hoj,hall⟩ := mem_ready.1 hj
  have hnot : ∀ e ∈ oj.after,Region.binds md e = true→e.on ≠ i := fun e he hb heq => by
   have h1 := hall e he hb
   rw [heq,getD_both hun] at h1
   cases h1
  refine qOp_mono (fun a' h3 => ih (listed.setIfInBounds j true) a' (inv.set hj hjn) (fun k ok hk hki hkun hno => ?_) (ready_mono hr (Ne.symm hji)) h3.1 (by rw [Array.setIfInBounds_comm _ _ hji]; exact h3.2))
   (qOp_put hoj (hfree j oj hoj hji hjun hnot) (fun cs b => hsel i oi cs b hi) (fun cs b => hsel j oj cs b hoj) hy (H.2 j (ready_mono hj hji)).2)
  refine hfree k ok hk hki ?_ hno
  by_cases hjk : j = k
  ·
   subst hjk; exact hjun
  ·
   rw [getD_set_ne true hjk] at hkun; exact hkun
theorem headQ_lex {n g : Nat} {Lq : Act→Prop} (hsel : Region.noSelect ops = true) (hs : Region.sinkB md ops n = true) (hc : Region.chainB md ops n = true) (hn : n < ops.size) :
  ∀ (l : List Oper) (k : Nat) (listed : Array Bool) (a : Act),(∀ j,j < l.length→l[j]? = ops[k + j]?)→k + l.length = n→HeadInv md ops n listed →
  Region.lexHead md ops g l.length k listed = true→wpQuiet P ops C Lq l a →
  headQ P md ops C n (fun listed' a' => Region.seqB md ops g n listed' = true∧Lq a') l.length listed a := by
 intro l
 induction l with
 | nil =>
  intro k listed a _ hk _ hB h
  obtain rfl : k = n := by simpa using hk
  exact ⟨by simpa [Region.lexHead] using hB,h⟩
 | cons o l ih =>
  intro k listed a hl hk inv hB h
  have h0 : ops[k]? = some o := by simpa using (hl 0 (by simp)).symm
  simp only [List.length_cons,Region.lexHead,Bool.and_eq_true] at hB
  simp only [List.length_cons] at hk
  have hr : k ∈ Region.ready md ops listed := by simpa using hB.1.1
  have hst : qOp P ops C k (wpQuiet P ops C Lq l) a := by unfold qOp; simp only [h0]; exact h
  obtain ⟨v,hy,hK⟩ := yieldsIn_of_qOp h0 hst
  exact headQ_take h0 (Region.noSelect_spec hsel) hs hc hn (by omega) (fun listed' a' hL => seqB_ready hL.1) l.length listed a inv (Region.free_spec h0 hB.1.2) hr hy
   (ih (k + 1) _ _ (fun j hj => by have := hl (j + 1) (by simp; omega); simpa [Nat.add_assoc,Nat.add_comm 1 j] using this) (by omega) (inv.set hr (by omega)) hB.2 hK)
theorem wp_region_quiet_tail {id : Nat} {Q : Exit→Act→World→Prop} {a : Act} {w : World} {l : List Oper} (n : Nat) (C : World→Prop) (hm : P.follows .mixedOrders = true) (hB : Region.lexTailB .any l.toArray n = true) (hC : C w.drew)
  (h : wpQuiet P l.toArray C (fun a' => ∀ w',C w'→wpList P l.toArray Q (l.drop n) a' w') (l.take n) a) : (Code.region id l.toArray true).wp P Q a w := by
 simp only [Region.lexTailB,Bool.and_eq_true,decide_eq_true_eq] at hB
 obtain ⟨⟨⟨⟨hsel,hn⟩,hs⟩,hc⟩,hlex⟩ := hB
 have hn' : n < l.length := by simpa using hn
 have htl : (l.take n).length = n := by simp; omega
 have hdl : (l.drop n).length = l.toArray.size - n := by simp
 have inv0 : HeadInv .any l.toArray n (Array.replicate l.toArray.size false) :=
  ⟨by simp,fun j oj _ hl => (by rw [getD_replicate_false] at hl; cases hl),fun t _ ht => getD_in (by simpa using ht) (getD_replicate_false _ _)⟩
 have H := headQ_lex (md := .any) (g := l.toArray.size - n) hsel hs hc hn (l.take n) 0 _ a (fun j hj => by
  have hj' : j < n := by rw [htl] at hj; exact hj
  simp [hj']) (by simpa using htl) inv0 (by rw [htl]; exact hlex) h
 refine wp_region_any hm ?_
 have := headQ_any (Q' := Q) (g := l.toArray.size - n) (fun listed a' w' hw' hL => by
  have := wpAny_of_seq (md := .any) (Q' := Q) (l.drop n) n listed a' w' (fun j => by simp [List.getElem?_drop]) (by rw [hdl]; exact hL.1) (hL.2 w' hw')
  rwa [hdl] at this) _ _ _ _ hC H
 rw [htl,show n + (l.toArray.size - n) = l.toArray.size by omega] at this
 exact this
theorem wp_region_quiet_all {id : Nat} {Q : Exit→Act→World→Prop} {a : Act} {w : World} {l : List Oper} (C : World→Prop) (hm : P.follows .mixedOrders = true) (hB : Region.lexB .any l.toArray = true) (hC : C w.drew)
  (h : wpQuiet P l.toArray C (fun a' => ∀ w',C w'→Q .normal a' w') l a) : (Code.region id l.toArray true).wp P Q a w :=
 wp_region_quiet (C := C) hm hB hC (by simpa using h)
theorem quiet_op {o : Oper} {rest : List Oper} {a : Act} {Q : Act→Prop} (v : Value) (hw : Region.wanted o (yielded ops a.tmps) = true) (hv : ∀ w,C w→o.quietAt P a C w v) (h : wpQuiet P ops C Q rest (a.put o.dst v)) : wpQuiet P ops C Q (o :: rest) a := by
 show if _ then _ else _
 rw [if_pos hw]
 exact ⟨v,hv,h⟩
theorem quiet_skip {o : Oper} {rest : List Oper} {a : Act} {Q : Act→Prop} (hw : Region.wanted o (yielded ops a.tmps) = false) (h : wpQuiet P ops C Q rest (a.put o.dst undef)) : wpQuiet P ops C Q (o :: rest) a := by
 show if _ then _ else _
 rw [if_neg (by rw [hw]; simp)]
 exact h
end
section
variable {P : Program} {ops : Array Oper} {Q : Exit→Act→World→Prop} {md : Region.Mode} {S : World→Prop}
def Comes (P : Program) (ops : Array Oper) (Q : Exit→Act→World→Prop) (md : Region.Mode) (S : World→Prop) (fuel : Nat) (listed : Array Bool) (a : Act) (w : World) (i : Nat) (oi : Oper) : Prop :=
 ∀ K' : Act→World→Prop,Shut (∀ a w,S w→(S w→wpAnyH P md ops Q S fuel (listed.setIfInBounds i true) a w)→K' a w)→if Region.wanted oi (yielded ops a.tmps) = true then Oper.wp P oi a w K' Q else K' (a.put oi.dst undef) w
theorem take_two (i j : Nat) {oi oj : Oper} {fuel : Nat} {listed : Array Bool} {a : Act} {w : World} (hi : ops.toList[i]? = some oi) (hj : ops.toList[j]? = some oj)
  (hr : Region.ready md ops listed = [i,j]) (h1 : Comes P ops Q md S fuel listed a w i oi) (h2 : Comes P ops Q md S fuel listed a w j oj) : wpAnyH P md ops Q S (fuel + 1) listed a w :=
 wpAnyH_ready hr (by simp) (AllReadyH.cons (by simpa using hi) h1 (AllReadyH.cons (by simpa using hj) h2 AllReadyH.nil))
theorem take_three (i j k : Nat) {oi oj ok : Oper} {fuel : Nat} {listed : Array Bool} {a : Act} {w : World} (hi : ops.toList[i]? = some oi) (hj : ops.toList[j]? = some oj) (hk : ops.toList[k]? = some ok)
  (hr : Region.ready md ops listed = [i,j,k]) (h1 : Comes P ops Q md S fuel listed a w i oi) (h2 : Comes P ops Q md S fuel listed a w j oj) (h3 : Comes P ops Q md S fuel listed a w k ok) : wpAnyH P md ops Q S (fuel + 1) listed a w :=
 wpAnyH_ready hr (by simp) (AllReadyH.cons (by simpa using hi) h1 (AllReadyH.cons (by simpa using hj) h2 (AllReadyH.cons (by simpa using hk) h3 AllReadyH.nil)))
theorem take_one (i : Nat) {oi : Oper} {fuel : Nat} {listed : Array Bool} {a : Act} {w : World} (hi : ops.toList[i]? = some oi)
  (hr : Region.ready md ops listed = [i]) (h1 : Comes P ops Q md S fuel listed a w i oi) : wpAnyH P md ops Q S (fuel + 1) listed a w :=
 wpAnyH_ready hr (by simp) (AllReadyH.cons (by simpa using hi) h1 AllReadyH.nil)
end
section
variable {P : Program} {ops : Array Oper} {Q : Exit→Act→World→Prop} {md : Region.Mode} {S : World→Prop} {n : Nat}
def wpT (P : Program) (md : Region.Mode) (ops : Array Oper) (Q : Exit→Act→World→Prop) (S : World→Prop) (n : Nat) : Nat→Array Bool→Act→World→Prop
 | 0,listed,a,w => Region.ready md ops listed = []∧Q .normal a w
 | fuel + 1,listed,a,w =>
  (Region.ready md ops listed = []→Q .normal a w) ∧
  ∀ i ∈ Region.ready md ops listed,wpOp P ops Q i (fun a' w' => (i < n→S w')∧wpT P md ops Q S n fuel (listed.setIfInBounds i true) a' w') a w
theorem wpT_any : ∀ (fuel : Nat) (listed : Array Bool) (a : Act) (w : World),wpT P md ops Q S n fuel listed a w→wpAny P md ops Q fuel listed a w := by
 intro fuel
 induction fuel with
 | zero => intro listed a w h; exact h
 | succ f ih => intro listed a w h; exact ⟨h.1,fun i hi => wpOp_mono (fun a' w' h' => ih _ a' w' h'.2) (h.2 i hi)⟩
theorem wpT_first {i : Nat} {oi : Oper} {v : Value} (hi : ops[i]? = some oi) (hsel : ∀ (j : Nat) (o : Oper) cs b,ops[j]? = some o→o.op ≠ .select cs b)
  (hs : Region.sinkB md ops n = true) (hc : Region.chainB md ops n = true) (hn : n < ops.size) (hin : i < n)
  (hQ : ∀ c a w,Q (.panic c) (a.put oi.dst v) w→Q (.panic c) a w) :
  ∀ (fuel : Nat) (listed : Array Bool) (a : Act) (w : World),HeadInv md ops n listed →
   (∀ j oj,ops[j]? = some oj→j ≠ i→listed.getD j true = false→(∀ e ∈ oj.after,Region.binds md e = true→e.on ≠ i)→oi.apart ops oj = true) →
   i ∈ Region.ready md ops listed→YieldsIf P ops S oi v a→S w →
   wpT P md ops Q S n fuel (listed.setIfInBounds i true) (a.put oi.dst v) w→wpT P md ops Q S n (fuel + 1) listed a w := by
 intro fuel
 induction fuel with
 | zero =>
  intro listed a w inv _ hr hy hS H
  refine ⟨fun h => (by rw [h] at hr; cases hr),fun j hj => ?_⟩
  by_cases hji : j = i
  ·
   subst hji; exact hy.wpOp hi hS ⟨fun _ => hS,H⟩
  ·
   have := ready_mono hj hji
   rw [H.1] at this
   cases this
 | succ fuel ih =>
  intro listed a w inv hfree hr hy hS H
  have hun := (mem_ready.1 hr).1
  refine ⟨fun h => (by rw [h] at hr; cases hr),fun j hj => ?_⟩
  by_cases hji : j = i
  ·
   subst hji; exact hy.wpOp hi hS ⟨fun _ => hS,H⟩
  have hjn : j < n := Nat.lt_of_not_le fun h => tail_waits hs hc hn inv _ i rfl hin hun j h hj
  obtain ⟨hjun,oj,hoj,hall⟩ := mem_ready.1 hj
  have hnot : ∀ e ∈ oj.after,Region.binds md e = true→e.on ≠ i := fun e he hb heq => by
   have h1 := hall e he hb
   rw [heq,getD_both hun] at h1
   cases h1
  refine wpOp_mono (fun a' w' h3 => ⟨h3.2.1,ih (listed.setIfInBounds j true) a' w' (inv.set hj hjn) (fun k ok hk hki hkun hno => ?_) (ready_mono hr (Ne.symm hji)) h3.1 (h3.2.1 hjn) (by rw [Array.setIfInBounds_comm _ _ hji]; exact h3.2.2)⟩)
   (wpOp_putIf hoj (hfree j oj hoj hji hjun hnot) (fun cs b => hsel i oi cs b hi) (fun cs b => hsel j oj cs b hoj) hQ hy (H.2 j (ready_mono hj hji)))
  refine hfree k ok hk hki ?_ hno
  by_cases hjk : j = k
  ·
   subst hjk; exact hjun
  ·
   rw [getD_set_ne true hjk] at hkun; exact hkun
def WalkT (P : Program) (md : Region.Mode) (ops : Array Oper) (Q : Exit→Act→World→Prop) (S : World→Prop) (n fuel : Nat) (listed : Array Bool) (a : Act) (w : World) : Prop :=
 (∀ i,i < n→HeadInv md ops n listed∨listed.getD i true = true)→wpT P md ops Q S n fuel listed a w
theorem walkT_begin {id : Nat} {a : Act} {w : World} {l : List Oper} (n : Nat) (S : World→Prop) (hm : P.follows .mixedOrders = true)
  (h : WalkT P .any l.toArray Q S n l.toArray.size (Array.replicate l.toArray.size false) a w.drew) : (Code.region id l.toArray true).wp P Q a w :=
 wp_region_any hm (wpT_any _ _ _ _ (h fun _ _ => Or.inl ⟨by simp,fun j oj _ hl => (by rw [getD_replicate_false] at hl; cases hl),fun t _ ht => getD_in (by simpa using ht) (getD_replicate_false _ _)⟩))
theorem takeT_run (i : Nat) {oi : Oper} {v : Value} {fuel : Nat} {listed : Array Bool} {a : Act} {w : World} (hi : ops.toList[i]? = some oi)
  (hB : (Region.noSelect ops && decide (n < ops.size) && Region.sinkB md ops n && Region.chainB md ops n && decide (i < n)) = true) (hf : Region.free md ops listed i = true) (hr : (Region.ready md ops listed).contains i = true)
  (hQ : ∀ c a w,Q (.panic c) (a.put oi.dst v) w→Q (.panic c) a w) (hw : Region.wanted oi (yielded ops a.tmps) = true)
  (hy : ∀ w,S w→(execOp a.eval oi).run P w = .ok (.value v) w) (hS : S w)
  (h : WalkT P md ops Q S n fuel (listed.setIfInBounds i true) (a.put oi.dst v) w) : WalkT P md ops Q S n (fuel + 1) listed a w := by
 simp only [Bool.and_eq_true,decide_eq_true_eq] at hB
 obtain ⟨⟨⟨⟨hsel,hn⟩,hs⟩,hc⟩,hin⟩ := hB
 intro hinv
 have hr' : i ∈ Region.ready md ops listed := by simpa using hr
 have hi' : ops[i]? = some oi := by simpa using hi
 have inv : HeadInv md ops n listed := (hinv i hin).resolve_right (by rw [(mem_ready.1 hr').1]; simp)
 exact wpT_first hi' (Region.noSelect_spec hsel) hs hc hn hin hQ fuel listed a w inv (Region.free_spec hi' hf) hr' (.inl ⟨hw,hy⟩) hS (h fun _ _ => Or.inl (inv.set hr' hin))
theorem takeT_skip (i : Nat) {oi : Oper} {fuel : Nat} {listed : Array Bool} {a : Act} {w : World} (hi : ops.toList[i]? = some oi)
  (hB : (Region.noSelect ops && decide (n < ops.size) && Region.sinkB md ops n && Region.chainB md ops n && decide (i < n)) = true) (hf : Region.free md ops listed i = true) (hr : (Region.ready md ops listed).contains i = true)
  (hQ : ∀ c a w,Q (.panic c) (a.put oi.dst undef) w→Q (.panic c) a w) (hw : Region.wanted oi (yielded ops a.tmps) = false) (hS : S w)
  (h : WalkT P md ops Q S n fuel (listed.setIfInBounds i true) (a.put oi.dst undef) w) : WalkT P md ops Q S n (fuel + 1) listed a w := by
 simp only [Bool.and_eq_true,decide_eq_true_eq] at hB
 obtain ⟨⟨⟨⟨hsel,hn⟩,hs⟩,hc⟩,hin⟩ := hB
 intro hinv
 have hr' : i ∈ Region.ready md ops listed := by simpa using hr
 have hi' : ops[i]? = some oi := by simpa using hi
 have inv : HeadInv md ops n listed := (hinv i hin).resolve_right (by rw [(mem_ready.1 hr').1]; simp)
 exact wpT_first hi' (Region.noSelect_spec hsel) hs hc hn hin hQ fuel listed a w inv (Region.free_spec hi' hf) hr' (.inr ⟨hw,rfl⟩) hS (h fun _ _ => Or.inl (inv.set hr' hin))
def ComesT (P : Program) (ops : Array Oper) (Q : Exit→Act→World→Prop) (md : Region.Mode) (S : World→Prop) (n fuel : Nat) (listed : Array Bool) (a : Act) (w : World) (i : Nat) (oi : Oper) : Prop :=
 ∀ K' : Act→World→Prop,Shut (∀ a w,S w→(S w→WalkT P md ops Q S n fuel (listed.setIfInBounds i true) a w)→K' a w)→if Region.wanted oi (yielded ops a.tmps) = true then Oper.wp P oi a w K' Q else K' (a.put oi.dst undef) w
theorem walkT_comes {rs : List Nat} {fuel : Nat} {listed : Array Bool} {a : Act} {w : World} (hr : Region.ready md ops listed = rs) (hne : rs ≠ []) (hrs : ∀ i ∈ rs,i < n)
  (h : ∀ i ∈ rs,∃ oi,ops.toList[i]? = some oi∧ComesT P ops Q md S n fuel listed a w i oi) : WalkT P md ops Q S n (fuel + 1) listed a w := by
 intro hinv
 refine ⟨fun h0 => absurd (hr ▸ h0) hne,fun i hi => ?_⟩
 have hi2 : i ∈ rs := hr ▸ hi
 have hin := hrs i hi2
 obtain ⟨oi,hoi,hcom⟩ := h i hi2
 have inv : HeadInv md ops n listed := (hinv i hin).resolve_right (by rw [(mem_ready.1 hi).1]; simp)
 have hcom := hcom (fun a' w' => (i < n→S w')∧wpT P md ops Q S n fuel (listed.setIfInBounds i true) a' w') (by unfold Shut; exact fun a' w' hS' hW => ⟨fun _ => hS',hW hS' fun _ _ => Or.inl (inv.set hi hin)⟩)
 unfold wpOp
 simp only [show ops[i]? = some oi by simpa using hoi]
 split
 ·
  rename_i hw
  rw [if_pos hw] at hcom
  exact .inl hcom
 ·
  rename_i hw
  rw [if_neg hw] at hcom
  exact hcom
theorem takeT_one (i : Nat) {oi : Oper} {fuel : Nat} {listed : Array Bool} {a : Act} {w : World} (hi : ops.toList[i]? = some oi)
  (hr : Region.ready md ops listed = [i]) (hin : decide (i < n) = true) (h1 : ComesT P ops Q md S n fuel listed a w i oi) : WalkT P md ops Q S n (fuel + 1) listed a w :=
 walkT_comes hr (by simp) (by simpa using hin) (fun j hj => by simp at hj; subst hj; exact ⟨oi,hi,h1⟩)
theorem takeT_two (i j : Nat) {oi oj : Oper} {fuel : Nat} {listed : Array Bool} {a : Act} {w : World} (hi : ops.toList[i]? = some oi) (hj : ops.toList[j]? = some oj)
  (hr : Region.ready md ops listed = [i,j]) (hin : (decide (i < n) && decide (j < n)) = true) (h1 : ComesT P ops Q md S n fuel listed a w i oi) (h2 : ComesT P ops Q md S n fuel listed a w j oj) : WalkT P md ops Q S n (fuel + 1) listed a w :=
 walkT_comes hr (by simp) (by simpa using hin) (fun k hk => by
  simp at hk
  rcases hk with rfl | rfl
  ·
   exact ⟨oi,hi,h1⟩
  ·
   exact ⟨oj,hj,h2⟩)
theorem takeT_three (i j k : Nat) {oi oj ok : Oper} {fuel : Nat} {listed : Array Bool} {a : Act} {w : World} (hi : ops.toList[i]? = some oi) (hj : ops.toList[j]? = some oj) (hk : ops.toList[k]? = some ok)
  (hr : Region.ready md ops listed = [i,j,k]) (hin : (decide (i < n) && decide (j < n) && decide (k < n)) = true) (h1 : ComesT P ops Q md S n fuel listed a w i oi) (h2 : ComesT P ops Q md S n fuel listed a w j oj) (h3 : ComesT P ops Q md S n fuel listed a w k ok) : WalkT P md ops Q S n (fuel + 1) listed a w :=
 walkT_comes hr (by simp) (by simpa [and_assoc] using hin) (fun x hx => by
  simp at hx
  rcases hx with rfl | rfl | rfl
  ·
   exact ⟨oi,hi,h1⟩
  ·
   exact ⟨oj,hj,h2⟩
  ·
   exact ⟨ok,hk,h3⟩)
theorem wpT_seq : ∀ (l : List Oper) (k : Nat) (listed : Array Bool) (a : Act) (w : World),ops.toList.drop k = l→Region.seqB md ops l.length k listed = true→n ≤ k→wpList P ops Q l a w→wpT P md ops Q S n l.length listed a w := by
 intro l
 induction l with
 | nil => intro k listed a w hl hB hkn h; exact ⟨by simpa [Region.seqB] using hB,h⟩
 | cons o l ih =>
  intro k listed a w hl hB hkn h
  have h0 : ops[k]? = some o := by
   have := congrArg (fun l => l[0]?) hl
   simpa [List.getElem?_drop] using this
  have hl2 : ops.toList.drop (k + 1) = l := by rw [← List.drop_drop,hl]; rfl
  simp only [List.length_cons,Region.seqB,Bool.and_eq_true,decide_eq_true_eq] at hB
  refine ⟨fun h1 => (by rw [hB.1] at h1; cases h1),fun i hi => ?_⟩
  rw [hB.1] at hi
  have hik : i = k := by simpa using hi
  subst hik
  have hw : wpOp P ops Q i (wpList P ops Q l) a w := by unfold wpOp; simp only [h0]; exact h
  exact wpOp_mono (fun a' w' h' => ⟨fun hlt => absurd hlt (by omega),ih (i + 1) _ a' w' hl2 hB.2 (by omega) h'⟩) hw
theorem walkT_tail {fuel : Nat} {l : List Oper} {listed : Array Bool} {a : Act} {w : World} (k : Nat) (hl : ops.toList.drop k = l) (hf : fuel = l.length) (hB : Region.seqB md ops l.length k listed = true) (hk : decide (n ≤ k) = true)
  (h : wpList P ops Q l a w) : WalkT P md ops Q S n fuel listed a w := by
 intro _
 subst hf
 exact wpT_seq l k listed a w hl hB (by simpa using hk) h
end
open Go.RowKit
theorem router_find (b : Nat) (c : Cfg) (node : Int) (p l : Nat) (ch : Int) (s : RouterS) (own : Nat→Prop) (w : World) (h : RouterAt b c node s w own) (hlen : s.lanes.length = 5 * c.Lanes.toNat)
  (hx : ∀ x ∈ (s.lanes.getD (p * c.Lanes.toNat + l) LaneS.new).q,x < 2 ^ 64) (hp : p < 5) (hl : (l : Int) < c.Lanes) (h8 : c.Lanes ≤ 8) (h1 : -9223372036854775808 ≤ ch) (h2 : ch ≤ 9223372036854775807) :
  Calls Tryz.prog 97 #[.pointer (some ⟨b,0,none⟩),.int .i64 (p : Int),.int .i64 (l : Int),.int .i64 ch] w fun e w' =>
   e = .returned (.bool ((s.lanes.getD (p * c.Lanes.toNat + l) LaneS.new).find node (c.leads node ch)).2) ∧
   Turn own (RouterAt b c node (s.setLane (p * c.Lanes.toNat + l) ((s.lanes.getD (p * c.Lanes.toNat + l) LaneS.new).find node (c.leads node ch)).1)) w w' := by
 obtain ⟨A,hF⟩ := h
 have kX := (Blk.made w #[.pointer (some ⟨b,0,none⟩)] 69).alloc (.cells #[.int .i64 ch] 3)
 have kY := Blk.made (w.alloc (.cells #[.pointer (some ⟨b,0,none⟩)] 69)) #[.int .i64 ch] 3
 have m0 : Mod (fun _ => False) w ((w.alloc (.cells #[.pointer (some ⟨b,0,none⟩)] 69)).alloc (.cells #[.int .i64 ch] 3)) := ((Mod.refl _ _).alloc _).alloc _
 have hs1 : (w.alloc (.cells #[.pointer (some ⟨b,0,none⟩)] 69)).heap.size = w.heap.size + 1 := by simp
 rw [hs1] at kY
 obtain ⟨k,hk⟩ : ∃ k,p * c.Lanes.toNat + l = k := ⟨_,rfl⟩
 have hkl := lane_index hp (L := c.Lanes.toNat) (l := l) (by omega)
 rw [hk] at hkl hx ⊢
 obtain ⟨y,hy⟩ : ∃ y,(s.lanes.getD k LaneS.new).find node (c.leads node ch) = y := ⟨_,rfl⟩
 rw [hy]
 go_enter Tryz.func97,Tryz.ntmps97
 go_upto_region 1 with fail
 generalize (w.alloc (.cells #[.pointer (some ⟨b,0,none⟩)] 69)).alloc (.cells #[.int .i64 ch] 3) = w1 at kX kY m0 ⊢
 have hF1 := (Fam.stable (routerX_stable b A c node s)).later hF m0 (by simp)
 have x0 := kX.cell 0
 simp at x0
 have HI := Lib.hid (fun n => router_in b A c node p l s own (w1.drewN n) ((Fam.stable (routerX_stable b A c node s)).later hF1 ((Mod.refl (fun _ => False) w1).drewN n) (by simp)) hp hl h8)
 have HA := Lib.hid (fun n => router_at b c node s own (w1.drewN n) ⟨A,(Fam.stable (routerX_stable b A c node s)).later hF1 ((Mod.refl (fun _ => False) w1).drewN n) (by simp)⟩)
 have HF := Lib.hid (fun n => by
  have hF2 := (Fam.stable (routerX_stable b A c node s)).later hF1 ((Mod.refl (fun _ => False) w1).drewN n) (by simp)
  obtain ⟨ob,⟨kb,-⟩,-⟩ := hF2.at (routerX_stable b A c node s) .blk
  obtain ⟨ol,hL,hlo,put⟩ := router_lane hF2 hkl hlen
  have hLd := router_leads b w.heap.size (w.heap.size + 1) A c node ch (w1.drewN n) kb (kX.drewN n) (kY.drewN n) h1 h2
  have hf := lane_find _ _ node _ _ _ _ _ _ hL hx hLd
  rw [hy] at hf
  exact hf.mono fun e w' ⟨he,t⟩ => (⟨he,Turn.before (m0.drewN n) (router_of (put _ _ t))⟩ : e = _∧Turn own (RouterAt b c node (s.setLane k y.1)) w w'))
 rw [hk] at HI
 clear hF hF1 m0 kX kY hs1 hx hlen hk hy hkl
 refine wp_region_quiet_tail 7 (fun w' => ∃ n,w' = World.drewN (w1) n) (by kernel_rfl) (by kernel_rfl) ⟨1,rfl⟩ ?_
 simp only [List.take_succ_cons,List.take_zero,List.drop_succ_cons,List.drop_zero]
 repeat (quiet_step (first | (go_at_call 85; exact Calls.quiet_of_same (HI.out _)) | (go_at_call 132; exact Calls.quiet_of_same (HA.out _))))
 refine wpQuiet_nil ?_
 intro _ hw'
 obtain ⟨nq,hw''⟩ := hw'
 subst hw''
 go_wp2_with fail
 refine (HF.out _).mono ?_
 rintro e w2 ⟨rfl,t2⟩
 have T := Lib.hid t2
 clear t2
 go_wp2
 go_ret
 exact ⟨rfl,T.out⟩
open Go.RowKit
theorem run_Class_true_true (W H La D R I B : Int) (we : Bool) (w : World) :
    Calls Tryz.prog 125 #[.agg (⟨W,H,La,D,R,I,B,we,true⟩ : Cfg).cells,.bool true] w fun e w' => e = .returned (.tuple #[.int .i64 ((⟨W,H,La,D,R,I,B,we,true⟩ : Cfg).cls true).1,.int .i64 ((⟨W,H,La,D,R,I,B,we,true⟩ : Cfg).cls true).2])∧Mod (fun _ => False) w w' := by
  have kb := Blk.made w (⟨W,H,La,D,R,I,B,we,true⟩ : Cfg).cells 23
  have m0 : Mod (fun _ => False) w (w.alloc (.cells (⟨W,H,La,D,R,I,B,we,true⟩ : Cfg).cells 23)) := (Mod.refl _ _).alloc _
  have HFIN := Lib.hid (show ∀ x : Int × Int,(⟨W,H,La,D,R,I,B,we,true⟩ : Cfg).cls true = x→Value.tuple #[.int .i64 ((⟨W,H,La,D,R,I,B,we,true⟩ : Cfg).cls true).1,.int .i64 ((⟨W,H,La,D,R,I,B,we,true⟩ : Cfg).cls true).2] = .tuple #[.int .i64 x.1,.int .i64 x.2] from fun x h => by rw [h])
  simp only [Cfg.cells] at kb m0 ⊢
  go_enter Tryz.func125,Tryz.ntmps125
  go_wp2_with fail
  refine (run_Check (⟨W,H,La,D,R,I,B,we,true⟩ : Cfg) _).mono ?_
  rintro e w1 ⟨rfl,m1⟩
  have mm1 := m0.trans m1 (by simp)
  have k1 := kb.later m1 (by simp)
  have c2 := k1.cell 2
  have c8 := k1.cell 8
  simp at c2 c8
  clear kb m0 m1
  by_cases hk : (⟨W,H,La,D,R,I,B,we,true⟩ : Cfg).chk = 0
  · have hok := Cfg.chk_iff (⟨W,H,La,D,R,I,B,we,true⟩ : Cfg) |>.1 hk
    have hl1 := hok.L1
    have hl2 := hok.L2
    dsimp only at hl1 hl2
    have HC := Lib.hid (show (⟨W,H,La,D,R,I,B,we,true⟩ : Cfg).cls true = (La - 1,1) from by unfold Cfg.cls; simp [hk])
    rw [hk]
    clear hk hok
    go_wp2
    first
    | (go_ret2
       exact ⟨congrArg Ending.returned (HFIN.out _ HC.out).symm,mm1⟩)
    | (go_region
       all_goals go_wp2
       all_goals go_ret2
       all_goals exact ⟨congrArg Ending.returned (HFIN.out _ HC.out).symm,by first | exact mm1 | exact mm1.drew⟩)
  · have HC := Lib.hid (show (⟨W,H,La,D,R,I,B,we,true⟩ : Cfg).cls true = (0,0) from by unfold Cfg.cls; rw [if_pos (Or.inl hk)])
    have hk2 : ((⟨W,H,La,D,R,I,B,we,true⟩ : Cfg).chk != 0) = true := by simp [hk]
    have hk3 : ((⟨W,H,La,D,R,I,B,we,true⟩ : Cfg).chk == 0) = false := by simp [hk]
    generalize (⟨W,H,La,D,R,I,B,we,true⟩ : Cfg).chk = E at hk hk2 hk3 ⊢
    clear hk
    go_wp2
    go_ret2
    exact ⟨congrArg Ending.returned (HFIN.out _ HC.out).symm,mm1⟩
theorem run_Class_true_false (W H La D R I B : Int) (we : Bool) (w : World) :
    Calls Tryz.prog 125 #[.agg (⟨W,H,La,D,R,I,B,we,false⟩ : Cfg).cells,.bool true] w fun e w' => e = .returned (.tuple #[.int .i64 ((⟨W,H,La,D,R,I,B,we,false⟩ : Cfg).cls true).1,.int .i64 ((⟨W,H,La,D,R,I,B,we,false⟩ : Cfg).cls true).2])∧Mod (fun _ => False) w w' := by
  have kb := Blk.made w (⟨W,H,La,D,R,I,B,we,false⟩ : Cfg).cells 23
  have m0 : Mod (fun _ => False) w (w.alloc (.cells (⟨W,H,La,D,R,I,B,we,false⟩ : Cfg).cells 23)) := (Mod.refl _ _).alloc _
  have HFIN := Lib.hid (show ∀ x : Int × Int,(⟨W,H,La,D,R,I,B,we,false⟩ : Cfg).cls true = x→Value.tuple #[.int .i64 ((⟨W,H,La,D,R,I,B,we,false⟩ : Cfg).cls true).1,.int .i64 ((⟨W,H,La,D,R,I,B,we,false⟩ : Cfg).cls true).2] = .tuple #[.int .i64 x.1,.int .i64 x.2] from fun x h => by rw [h])
  simp only [Cfg.cells] at kb m0 ⊢
  go_enter Tryz.func125,Tryz.ntmps125
  go_wp2_with fail
  refine (run_Check (⟨W,H,La,D,R,I,B,we,false⟩ : Cfg) _).mono ?_
  rintro e w1 ⟨rfl,m1⟩
  have mm1 := m0.trans m1 (by simp)
  have k1 := kb.later m1 (by simp)
  have c2 := k1.cell 2
  have c8 := k1.cell 8
  simp at c2 c8
  clear kb m0 m1
  by_cases hk : (⟨W,H,La,D,R,I,B,we,false⟩ : Cfg).chk = 0
  · have hok := Cfg.chk_iff (⟨W,H,La,D,R,I,B,we,false⟩ : Cfg) |>.1 hk
    have hl1 := hok.L1
    have hl2 := hok.L2
    dsimp only at hl1 hl2
    have HC := Lib.hid (show (⟨W,H,La,D,R,I,B,we,false⟩ : Cfg).cls true = (0,0) from by unfold Cfg.cls; simp [hk])
    rw [hk]
    clear hk hok
    go_wp2
    first
    | (go_ret2
       exact ⟨congrArg Ending.returned (HFIN.out _ HC.out).symm,mm1⟩)
    | (go_region
       all_goals go_wp2
       all_goals go_ret2
       all_goals exact ⟨congrArg Ending.returned (HFIN.out _ HC.out).symm,by first | exact mm1 | exact mm1.drew⟩)
  · have HC := Lib.hid (show (⟨W,H,La,D,R,I,B,we,false⟩ : Cfg).cls true = (0,0) from by unfold Cfg.cls; rw [if_pos (Or.inl hk)])
    have hk2 : ((⟨W,H,La,D,R,I,B,we,false⟩ : Cfg).chk != 0) = true := by simp [hk]
    have hk3 : ((⟨W,H,La,D,R,I,B,we,false⟩ : Cfg).chk == 0) = false := by simp [hk]
    generalize (⟨W,H,La,D,R,I,B,we,false⟩ : Cfg).chk = E at hk hk2 hk3 ⊢
    clear hk
    go_wp2
    go_ret2
    exact ⟨congrArg Ending.returned (HFIN.out _ HC.out).symm,mm1⟩
theorem run_Class_false_true (W H La D R I B : Int) (we : Bool) (w : World) :
    Calls Tryz.prog 125 #[.agg (⟨W,H,La,D,R,I,B,we,true⟩ : Cfg).cells,.bool false] w fun e w' => e = .returned (.tuple #[.int .i64 ((⟨W,H,La,D,R,I,B,we,true⟩ : Cfg).cls false).1,.int .i64 ((⟨W,H,La,D,R,I,B,we,true⟩ : Cfg).cls false).2])∧Mod (fun _ => False) w w' := by
  have kb := Blk.made w (⟨W,H,La,D,R,I,B,we,true⟩ : Cfg).cells 23
  have m0 : Mod (fun _ => False) w (w.alloc (.cells (⟨W,H,La,D,R,I,B,we,true⟩ : Cfg).cells 23)) := (Mod.refl _ _).alloc _
  have HFIN := Lib.hid (show ∀ x : Int × Int,(⟨W,H,La,D,R,I,B,we,true⟩ : Cfg).cls false = x→Value.tuple #[.int .i64 ((⟨W,H,La,D,R,I,B,we,true⟩ : Cfg).cls false).1,.int .i64 ((⟨W,H,La,D,R,I,B,we,true⟩ : Cfg).cls false).2] = .tuple #[.int .i64 x.1,.int .i64 x.2] from fun x h => by rw [h])
  simp only [Cfg.cells] at kb m0 ⊢
  go_enter Tryz.func125,Tryz.ntmps125
  go_wp2_with fail
  refine (run_Check (⟨W,H,La,D,R,I,B,we,true⟩ : Cfg) _).mono ?_
  rintro e w1 ⟨rfl,m1⟩
  have mm1 := m0.trans m1 (by simp)
  have k1 := kb.later m1 (by simp)
  have c2 := k1.cell 2
  have c8 := k1.cell 8
  simp at c2 c8
  clear kb m0 m1
  by_cases hk : (⟨W,H,La,D,R,I,B,we,true⟩ : Cfg).chk = 0
  · have hok := Cfg.chk_iff (⟨W,H,La,D,R,I,B,we,true⟩ : Cfg) |>.1 hk
    have hl1 := hok.L1
    have hl2 := hok.L2
    dsimp only at hl1 hl2
    have HC := Lib.hid (show (⟨W,H,La,D,R,I,B,we,true⟩ : Cfg).cls false = (0,La - 1) from by unfold Cfg.cls; simp [hk])
    rw [hk]
    clear hk hok
    go_wp2
    first
    | (go_ret2
       exact ⟨congrArg Ending.returned (HFIN.out _ HC.out).symm,mm1⟩)
    | (go_region
       all_goals go_wp2
       all_goals go_ret2
       all_goals exact ⟨congrArg Ending.returned (HFIN.out _ HC.out).symm,by first | exact mm1 | exact mm1.drew⟩)
  · have HC := Lib.hid (show (⟨W,H,La,D,R,I,B,we,true⟩ : Cfg).cls false = (0,0) from by unfold Cfg.cls; rw [if_pos (Or.inl hk)])
    have hk2 : ((⟨W,H,La,D,R,I,B,we,true⟩ : Cfg).chk != 0) = true := by simp [hk]
    have hk3 : ((⟨W,H,La,D,R,I,B,we,true⟩ : Cfg).chk == 0) = false := by simp [hk]
    generalize (⟨W,H,La,D,R,I,B,we,true⟩ : Cfg).chk = E at hk hk2 hk3 ⊢
    clear hk
    go_wp2
    go_ret2
    exact ⟨congrArg Ending.returned (HFIN.out _ HC.out).symm,mm1⟩
theorem run_Class_false_false (W H La D R I B : Int) (we : Bool) (w : World) :
    Calls Tryz.prog 125 #[.agg (⟨W,H,La,D,R,I,B,we,false⟩ : Cfg).cells,.bool false] w fun e w' => e = .returned (.tuple #[.int .i64 ((⟨W,H,La,D,R,I,B,we,false⟩ : Cfg).cls false).1,.int .i64 ((⟨W,H,La,D,R,I,B,we,false⟩ : Cfg).cls false).2])∧Mod (fun _ => False) w w' := by
  have kb := Blk.made w (⟨W,H,La,D,R,I,B,we,false⟩ : Cfg).cells 23
  have m0 : Mod (fun _ => False) w (w.alloc (.cells (⟨W,H,La,D,R,I,B,we,false⟩ : Cfg).cells 23)) := (Mod.refl _ _).alloc _
  have HFIN := Lib.hid (show ∀ x : Int × Int,(⟨W,H,La,D,R,I,B,we,false⟩ : Cfg).cls false = x→Value.tuple #[.int .i64 ((⟨W,H,La,D,R,I,B,we,false⟩ : Cfg).cls false).1,.int .i64 ((⟨W,H,La,D,R,I,B,we,false⟩ : Cfg).cls false).2] = .tuple #[.int .i64 x.1,.int .i64 x.2] from fun x h => by rw [h])
  simp only [Cfg.cells] at kb m0 ⊢
  go_enter Tryz.func125,Tryz.ntmps125
  go_wp2_with fail
  refine (run_Check (⟨W,H,La,D,R,I,B,we,false⟩ : Cfg) _).mono ?_
  rintro e w1 ⟨rfl,m1⟩
  have mm1 := m0.trans m1 (by simp)
  have k1 := kb.later m1 (by simp)
  have c2 := k1.cell 2
  have c8 := k1.cell 8
  simp at c2 c8
  clear kb m0 m1
  by_cases hk : (⟨W,H,La,D,R,I,B,we,false⟩ : Cfg).chk = 0
  · have hok := Cfg.chk_iff (⟨W,H,La,D,R,I,B,we,false⟩ : Cfg) |>.1 hk
    have hl1 := hok.L1
    have hl2 := hok.L2
    dsimp only at hl1 hl2
    have HC := Lib.hid (show (⟨W,H,La,D,R,I,B,we,false⟩ : Cfg).cls false = (0,La) from by unfold Cfg.cls; simp [hk])
    rw [hk]
    clear hk hok
    go_wp2
    first
    | (go_ret2
       exact ⟨congrArg Ending.returned (HFIN.out _ HC.out).symm,mm1⟩)
    | (go_region
       all_goals go_wp2
       all_goals go_ret2
       all_goals exact ⟨congrArg Ending.returned (HFIN.out _ HC.out).symm,by first | exact mm1 | exact mm1.drew⟩)
  · have HC := Lib.hid (show (⟨W,H,La,D,R,I,B,we,false⟩ : Cfg).cls false = (0,0) from by unfold Cfg.cls; rw [if_pos (Or.inl hk)])
    have hk2 : ((⟨W,H,La,D,R,I,B,we,false⟩ : Cfg).chk != 0) = true := by simp [hk]
    have hk3 : ((⟨W,H,La,D,R,I,B,we,false⟩ : Cfg).chk == 0) = false := by simp [hk]
    generalize (⟨W,H,La,D,R,I,B,we,false⟩ : Cfg).chk = E at hk hk2 hk3 ⊢
    clear hk
    go_wp2
    go_ret2
    exact ⟨congrArg Ending.returned (HFIN.out _ HC.out).symm,mm1⟩
theorem run_Class (c : Cfg) (b : Bool) (w : World) :
    Calls Tryz.prog 125 #[.agg c.cells,.bool b] w fun e w' => e = .returned (.tuple #[.int .i64 (c.cls b).1,.int .i64 (c.cls b).2])∧Mod (fun _ => False) w w' := by
  obtain ⟨W,H,La,D,R,I,B,we,ca⟩ := c
  cases b <;> cases ca
  · exact run_Class_false_false W H La D R I B we w
  · exact run_Class_false_true W H La D R I B we w
  · exact run_Class_true_false W H La D R I B we w
  · exact run_Class_true_true W H La D R I B we w
open Go.RowKit
theorem router_give1 (X Y Z b p g o L cc : Nat) (f m v : Int) (j : Nat) (w : World)
  (kX : w.cell? ⟨X,0,none⟩ = some (.int .i64 f)) (kY : w.cell? ⟨Y,0,none⟩ = some (.int .i64 m)) (kZ : w.cell? ⟨Z,0,none⟩ = some (.pointer (some ⟨b,p,none⟩)))
  (cs : w.cell? ⟨b,p + 1,none⟩ = some (.slice (some ⟨g,o,none⟩) L cc)) (hj : j < L) (hv : w.cell? ⟨g,o + j,none⟩ = some (.int .i64 v)) (hf : 0 ≤ f∧f ≤ 8) (hm : 0 ≤ m∧m ≤ 8) :
  Calls Tryz.prog 139 #[.int .i64 (j : Int),.pointer (some ⟨X,0,none⟩),.pointer (some ⟨Y,0,none⟩),.pointer (some ⟨Z,0,none⟩)] w fun e w' => e = .returned (.bool (decide (f ≤ j) && decide ((j : Int) < f + m) && decide (v = -1)))∧w' = w := by
 have q0 : (0 : Int) ≤ (j : Int) := by omega
 have q1 : (j : Int) < (L : Int) := by omega
 have hm1 : IntKind.i64.wrap (f + m) = f + m := IntWalk.i64_in _ (by omega)
 have HV := Lib.hid (show (v == -1) = decide (v = -1) from rfl)
 by_cases h1 : f ≤ (j : Int)
 ·
  by_cases h2 : (j : Int) < f + m
  ·
   go_enter Tryz.func139,Tryz.ntmps139
   go_wp2
   go_ret
   exact ⟨ret_bool (by simp [h1,h2]; exact HV.out),rfl⟩
  ·
   go_enter Tryz.func139,Tryz.ntmps139
   go_wp2
   go_ret
   exact ⟨ret_bool (by simp; omega),rfl⟩
 ·
  go_enter Tryz.func139,Tryz.ntmps139
  go_wp2
  go_ret
  exact ⟨ret_bool (by simp; omega),rfl⟩
open Go.RowKit
structure LaneOk (c : Cfg) (y : LaneS) : Prop where
 q : ∀ x ∈ y.q,x < 2 ^ 64
 ph : 0 ≤ y.phase
 port : 0 ≤ y.port∧y.port < 5
 lane : 0 ≤ y.lane∧y.lane < c.Lanes
theorem LaneOk.new {c : Cfg} (h : c.Ok) : LaneOk c LaneS.new := ⟨fun x hx => by simp [LaneS.new] at hx,by simp [LaneS.new],by simp [LaneS.new],by have := h.L1; simp [LaneS.new]; omega⟩
structure RouterOk (c : Cfg) (s : RouterS) : Prop where
 ll : s.lanes.length = 5 * c.Lanes.toNat
 ol : s.owners.length = 5 * c.Lanes.toNat
 gl : s.gives.length = 5
 ml : s.moves.length = 5
 lane : ∀ y ∈ s.lanes,LaneOk c y
 give : ∀ x ∈ s.gives,-1 ≤ x∧x < c.Lanes
 move : ∀ x ∈ s.moves,-1 ≤ x∧x < 5 * c.Lanes
theorem mem_set {α : Type} {P : α→Prop} {l : List α} {k : Nat} {x : α} (h : ∀ y ∈ l,P y) (hx : P x) : ∀ y ∈ l.set k x,P y := fun y hy => by
 rcases List.mem_or_eq_of_mem_set hy with h1 | h1
 ·
  exact h y h1
 ·
  exact h1 ▸ hx
theorem mem_getD {α : Type} {P : α→Prop} {l : List α} {d : α} (h : ∀ y ∈ l,P y) (hd : P d) (k : Nat) : P (l.getD k d) := by
 rw [List.getD_eq_getElem?_getD]
 rcases hk : l[k]? with _ | y
 ·
  exact hd
 ·
  exact h y (List.mem_of_getElem? hk)
def RouterS.giveK (c : Cfg) (x : RouterS) (p k : Int) : Option Int :=
 let cl := c.cls (c.Cast && decide (k % c.Lanes = c.Lanes - 1))
 seeR c.Lanes (x.gives.getD p.toNat (-1)) fun i =>
  let j := (x.gives.getD p.toNat (-1) + 1 + i) % c.Lanes
  decide (cl.1 ≤ j) && decide (j < cl.1 + cl.2) && decide (x.owners.getD (p * c.Lanes + j).toNat (-1) = -1)
def RouterS.gave (c : Cfg) (x : RouterS) (k : Nat) (j : Int) : RouterS :=
 let y := x.lanes.getD k LaneS.new
 ⟨x.lanes.set k ⟨y.q,2,y.port,j,y.copies⟩,x.owners.set (y.port * c.Lanes + j).toNat (k : Int),x.gives.set y.port.toNat j,x.moves⟩
def RouterS.give (c : Cfg) (x : RouterS) (k : Nat) : RouterS × Bool :=
 if (x.lanes.getD k LaneS.new).phase = 1 then
  match x.giveK c (x.lanes.getD k LaneS.new).port (k : Int) with
  | none => (x,false)
  | some j => (x.gave c k j,true)
 else (x,false)
theorem cls_bd (c : Cfg) (h : c.Ok) (b : Bool) : (0 ≤ (c.cls b).1∧(c.cls b).1 ≤ 8)∧(0 ≤ (c.cls b).2∧(c.cls b).2 ≤ 8) := by
 have h1 := h.L1
 have h2 := h.L2
 unfold Cfg.cls
 split
 ·
  simp
 split
 ·
  dsimp only; omega
 split
 ·
  dsimp only; omega
 ·
  dsimp only; omega
theorem Que.set1 {α : Type} {enc : α→List Value} {T : TypeId} {a : Option Addr} {n cc : Nat} {xs : List α} {w : World} {own : Nat→Prop} (h : Que enc 1 T (.slice a n cc) xs w own) {j : Nat} (hj : j < xs.length) (x : α) (v : Value) (hv : enc x = [v]) :
  ∃ g o,a = some ⟨g,o,none⟩∧w.frozen? ⟨g,o + j,none⟩ = false∧(∃ v0,w.cell? ⟨g,o + j,none⟩ = some v0)∧Turn own (Que enc 1 T (.slice a n cc) (xs.set j x)) w (w.setCell ⟨g,o + j,none⟩ v) := by
 rcases h with ⟨-,rfl,-⟩ | ⟨g,o,n',cp,cur,hval,hb,h1,h2,h3,h4,h5,ho⟩
 ·
  simp at hj
 ·
  simp only [Value.slice.injEq] at hval
  obtain ⟨rfl,rfl,rfl⟩ := hval
  refine ⟨g,o,rfl,hb.fz _,?_,own,Or.inr ⟨g,o,n,cc,cur.setIfInBounds (o + j) v,rfl,hb.set _ _,by simpa using h1,h2,h3,by simpa using h4,fun i y hi t ht => ?_,ho⟩,(Mod.refl own w).setCell (Or.inl ((ho g).2 rfl)) v,fun k hk => Or.inl hk⟩
  ·
   rw [hb.cell,Array.getElem?_eq_getElem (by omega)]
   exact ⟨_,rfl⟩
  ·
   obtain rfl : t = 0 := by omega
   by_cases hij : j = i
   ·
    subst hij
    rw [List.getElem?_set_self hj] at hi
    cases hi
    rw [hv]
    have hlt : o + j < cur.size := by omega
    simp [hlt]
   ·
    rw [List.getElem?_set_ne hij] at hi
    have := h5 i y hi 0 (by omega)
    rw [← this]
    simp only [Nat.mul_one,Nat.add_zero]
    rw [Array.getElem?_setIfInBounds_ne (by omega)]
theorem row_get {l : List Int} {L p j : Nat} (hj : j < L) (hlen : p * L + L ≤ l.length) : ((l.drop (p * L)).take L)[j]? = some (l.getD (p * L + j) (-1)) := by
 rw [List.getElem?_take,if_pos hj,List.getElem?_drop,List.getD_eq_getElem?_getD,List.getElem?_eq_getElem (by omega)]
 rfl
theorem row_len {l : List Int} {L p : Nat} (hlen : p * L + L ≤ l.length) : ((l.drop (p * L)).take L).length = L := by
 simp; omega
theorem row_set {l : List Int} {L p j : Nat} (x : Int) (hj : j < L) : ((l.set (p * L + j) x).drop (p * L)).take L = (((l.drop (p * L)).take L)).set j x := by
 rw [List.drop_set,if_neg (by omega),show p * L + j - p * L = j by omega,List.take_set]
theorem row_other {l : List Int} {L p q j : Nat} (x : Int) (hj : j < L) (h : q ≠ p) : ((l.set (p * L + j) x).drop (q * L)).take L = (l.drop (q * L)).take L := by
 rcases Nat.lt_or_gt_of_ne h with h | h
 ·
  have h1 : q * L + L ≤ p * L := by rw [← Nat.succ_mul]; exact Nat.mul_le_mul_right _ h
  rw [List.drop_set,if_neg (by omega),List.take_set,List.set_eq_of_length_le (by simp; omega)]
 ·
  have h1 : p * L + L ≤ q * L := by rw [← Nat.succ_mul]; exact Nat.mul_le_mul_right _ h
  rw [List.drop_set,if_pos (by omega)]
open Go.RowKit
theorem getD_any {l : List Int} {k : Nat} (h : k < l.length) (d e : Int) : l.getD k d = l.getD k e := by
 rw [List.getD_eq_getElem?_getD,List.getD_eq_getElem?_getD,List.getElem?_eq_getElem h]
 rfl
theorem getD_P {P : Int→Prop} {l : List Int} {k : Nat} (h : k < l.length) (hP : ∀ x ∈ l,P x) (d : Int) : P (l.getD k d) := by
 rw [List.getD_eq_getElem?_getD,List.getElem?_eq_getElem h]
 exact hP _ (List.getElem_mem h)
section
variable {b : Nat} {A : RAddr} {c : Cfg} {node : Int} {s : RouterS} {own : Nat→Prop} {w : World}
theorem router_own (hF : Fam (routerX b A c node s) w own) (hol : s.owners.length = 5 * c.Lanes.toNat) (hc : c.Ok) {q : Nat} (hq : q < 5) :
  ∃ g o cc,A.ov q = .slice (some ⟨g,o,none⟩) c.Lanes.toNat cc∧(∀ j,j < c.Lanes.toNat→w.cell? ⟨g,o + j,none⟩ = some (.int .i64 (s.owners.getD (q * c.Lanes.toNat + j) (-1)))) ∧
   ∀ j x,j < c.Lanes.toNat→w.frozen? ⟨g,o + j,none⟩ = false∧Turn own (Fam (routerX b A c node ⟨s.lanes,s.owners.set (q * c.Lanes.toNat + j) x,s.gives,s.moves⟩)) w (w.setCell ⟨g,o + j,none⟩ (.int .i64 x)) := by
 obtain ⟨oo,ho,hoo,put⟩ := hF.at (routerX_stable b A c node s) (.own q)
 rw [routerX,if_pos hq] at ho
 have hL1 : 1 ≤ c.Lanes.toNat := by have := hc.L1; omega
 have hidx : q * c.Lanes.toNat + c.Lanes.toNat ≤ s.owners.length := by
  have h1 : (q + 1) * c.Lanes.toNat ≤ 5 * c.Lanes.toNat := Nat.mul_le_mul_right _ hq
  rw [Nat.succ_mul] at h1
  rw [hol]
  exact h1
 obtain ⟨a,cc,hv,hl,hcc⟩ := Que.form ho
 have hrl : (s.row c.Lanes.toNat q).length = c.Lanes.toNat := row_len hidx
 rw [hrl] at hv
 rw [hv] at ho
 obtain ⟨g,o,ha,-⟩ := Que.set1 ho (j := 0) (by omega) 0 (.int .i64 0) rfl
 refine ⟨g,o,cc,by rw [hv,ha],fun j hj => ?_,fun j x hj => ?_⟩
 ·
  obtain ⟨g',o',ha',-,-,hcell⟩ := Que.at ho (j := j) (row_get hj hidx)
  rw [ha] at ha'
  simp only [Option.some.injEq,Addr.mk.injEq] at ha'
  obtain ⟨rfl,rfl,-⟩ := ha'
  have := hcell 0 (by decide)
  simpa [encI] using this
 ·
  obtain ⟨g',o',ha',hfz,-,t⟩ := Que.set1 ho (j := j) (by omega) x (.int .i64 x) rfl
  rw [ha] at ha'
  simp only [Option.some.injEq,Addr.mk.injEq] at ha'
  obtain ⟨rfl,rfl,-⟩ := ha'
  refine ⟨hfz,put _ _ (fun i hi => ?_) ?_⟩
  ·
   cases i
   ·
    rfl
   ·
    rfl
   ·
    rename_i q'
    have hne : q' ≠ q := fun e => hi (by rw [e])
    show (if q' < 5 then Que encI 1 3 (A.ov q') (((s.owners.set (q * c.Lanes.toNat + j) x).drop (q' * c.Lanes.toNat)).take c.Lanes.toNat) else Emp) = (if q' < 5 then Que encI 1 3 (A.ov q') ((s.owners.drop (q' * c.Lanes.toNat)).take c.Lanes.toNat) else Emp)
    rw [row_other x hj hne]
   ·
    rfl
   ·
    rfl
   ·
    rfl
  ·
   have e : routerX b A c node ⟨s.lanes,s.owners.set (q * c.Lanes.toNat + j) x,s.gives,s.moves⟩ (.own q) = Que encI 1 3 (.slice a c.Lanes.toNat cc) ((s.row c.Lanes.toNat q).set j x) := by
    show (if q < 5 then Que encI 1 3 (A.ov q) (((s.owners.set (q * c.Lanes.toNat + j) x).drop (q * c.Lanes.toNat)).take c.Lanes.toNat) else Emp) = _
    rw [if_pos hq,row_set x hj,hv]
    rfl
   rw [e]
   exact t
theorem router_gives (hF : Fam (routerX b A c node s) w own) (hs : RouterOk c s) {q : Nat} (hq : q < 5) :
  Blk w (A.fg q) #[.int .i64 c.Lanes,.int .i64 (s.gives.getD q (-1))] 217∧∀ r : Option Int,Turn own (Fam (routerX b A c node ⟨s.lanes,s.owners,s.gives.set q (r.getD (s.gives.getD q (-1))),s.moves⟩)) w (setLast (A.fg q) r w) := by
 obtain ⟨og,hg,hoo,put⟩ := hF.at (routerX_stable b A c node s) (.give q)
 rw [routerX,if_pos hq,getD_any (by rw [hs.gl]; exact hq) 0 (-1)] at hg
 obtain ⟨kg,hog⟩ := hg
 refine ⟨kg,fun r => put _ _ (fun i hi => ?_) ?_⟩
 ·
  cases i
  ·
   rfl
  ·
   rfl
  ·
   rfl
  ·
   rename_i q'
   have hne : q ≠ q' := fun e => hi (by rw [e])
   show (if q' < 5 then Cells (A.fg q') #[.int .i64 c.Lanes,.int .i64 ((s.gives.set q _).getD q' 0)] 217 else Emp) = (if q' < 5 then Cells (A.fg q') #[.int .i64 c.Lanes,.int .i64 (s.gives.getD q' 0)] 217 else Emp)
   rw [List.getD_eq_getElem?_getD,List.getElem?_set_ne hne,List.getD_eq_getElem?_getD]
  ·
   rfl
  ·
   rfl
 ·
  have e : routerX b A c node ⟨s.lanes,s.owners,s.gives.set q (r.getD (s.gives.getD q (-1))),s.moves⟩ (.give q) = Cells (A.fg q) #[.int .i64 c.Lanes,.int .i64 (r.getD (s.gives.getD q (-1)))] 217 := by
   show (if q < 5 then Cells (A.fg q) #[.int .i64 c.Lanes,.int .i64 ((s.gives.set q _).getD q 0)] 217 else Emp) = _
   rw [if_pos hq,List.getD_eq_getElem?_getD,List.getElem?_set_self (by rw [hs.gl]; exact hq)]
   rfl
  rw [e]
  exact Cells.put hog (FairAt.set (b := A.fg q) kg r) (setLast_mod r rfl)
theorem router_moves (hF : Fam (routerX b A c node s) w own) (hs : RouterOk c s) {q : Nat} (hq : q < 5) :
  Blk w (A.fm q) #[.int .i64 (5 * c.Lanes),.int .i64 (s.moves.getD q (-1))] 217∧∀ r : Option Int,Turn own (Fam (routerX b A c node ⟨s.lanes,s.owners,s.gives,s.moves.set q (r.getD (s.moves.getD q (-1)))⟩)) w (setLast (A.fm q) r w) := by
 obtain ⟨og,hg,hoo,put⟩ := hF.at (routerX_stable b A c node s) (.mv q)
 rw [routerX,if_pos hq,getD_any (by rw [hs.ml]; exact hq) 0 (-1)] at hg
 obtain ⟨kg,hog⟩ := hg
 refine ⟨kg,fun r => put _ _ (fun i hi => ?_) ?_⟩
 ·
  cases i
  ·
   rfl
  ·
   rfl
  ·
   rfl
  ·
   rfl
  ·
   rename_i q'
   have hne : q ≠ q' := fun e => hi (by rw [e])
   show (if q' < 5 then Cells (A.fm q') #[.int .i64 (5 * c.Lanes),.int .i64 ((s.moves.set q _).getD q' 0)] 217 else Emp) = (if q' < 5 then Cells (A.fm q') #[.int .i64 (5 * c.Lanes),.int .i64 (s.moves.getD q' 0)] 217 else Emp)
   rw [List.getD_eq_getElem?_getD,List.getElem?_set_ne hne,List.getD_eq_getElem?_getD]
  ·
   rfl
 ·
  have e : routerX b A c node ⟨s.lanes,s.owners,s.gives,s.moves.set q (r.getD (s.moves.getD q (-1)))⟩ (.mv q) = Cells (A.fm q) #[.int .i64 (5 * c.Lanes),.int .i64 (r.getD (s.moves.getD q (-1)))] 217 := by
   show (if q < 5 then Cells (A.fm q) #[.int .i64 (5 * c.Lanes),.int .i64 ((s.moves.set q _).getD q 0)] 217 else Emp) = _
   rw [if_pos hq,List.getD_eq_getElem?_getD,List.getElem?_set_self (by rw [hs.ml]; exact hq)]
   rfl
  rw [e]
  exact Cells.put hog (FairAt.set (b := A.fm q) kg r) (setLast_mod r rfl)
def giveAns (c : Cfg) (s : RouterS) (q : Nat) (k : Int) (i : Nat) : Bool :=
 let cl := c.cls (c.Cast && decide (k % c.Lanes = c.Lanes - 1))
 let j := (s.gives.getD q (-1) + 1 + i) % c.Lanes
 decide (cl.1 ≤ j) && decide (j < cl.1 + cl.2) && decide (s.owners.getD ((q : Int) * c.Lanes + j).toNat (-1) = -1)
theorem asks_give (hF : Fam (routerX b A c node s) w own) (hs : RouterOk c s) (hc : c.Ok) {q : Nat} (hq : q < 5) (k : Int) {X Y Z : Nat} {tX tY tZ : TypeId}
  (kX : Blk w X #[.int .i64 (c.cls (c.Cast && decide (k % c.Lanes = c.Lanes - 1))).1] tX) (kY : Blk w Y #[.int .i64 (c.cls (c.Cast && decide (k % c.Lanes = c.Lanes - 1))).2] tY) (kZ : Blk w Z #[.pointer (some ⟨b,10 + q * 4,none⟩)] tZ) :
  Asks 139 #[.pointer (some ⟨X,0,none⟩),.pointer (some ⟨Y,0,none⟩),.pointer (some ⟨Z,0,none⟩)] (A.fg q) c.Lanes (s.gives.getD q (-1)) (giveAns c s q k) (fun _ w' => Drw w w') where
 p1 := hc.L1
 p2 := by have := hc.L2; omega
 l1 := (getD_P (by rw [hs.gl]; exact hq) hs.give (-1)).1
 l2 := (getD_P (by rw [hs.gl]; exact hq) hs.give (-1)).2
 enters := enters_of Tryz.func139 (by kernel_rfl) rfl
 c0 := fun _ _ h => by rw [h.cell,(router_gives hF hs hq).1.cell]; rfl
 c1 := fun _ _ h => by rw [h.cell,(router_gives hF hs hq).1.cell]; rfl
 fz := fun _ _ h => by rw [h.frozen]; exact (router_gives hF hs hq).1.fz 1
 drewN := fun _ _ m h => h.trans (Drw.drewN _ m)
 call := by
  intro i w1 hi hd
  have hL1 := hc.L1
  have hL2 := hc.L2
  obtain ⟨jn,hjn⟩ : ∃ jn : Nat,(s.gives.getD q (-1) + 1 + i) % c.Lanes = (jn : Int) := Int.eq_ofNat_of_zero_le (Int.emod_nonneg _ (by omega))
  have hjl : (jn : Int) < c.Lanes := by rw [← hjn]; exact Int.emod_lt_of_pos _ (by omega)
  obtain ⟨ob,⟨kb,-⟩,-⟩ := hF.at (routerX_stable b A c node s) .blk
  have cs := (router_side kb hq).2.1
  obtain ⟨g,o,cc,hv,hcell,-⟩ := router_own hF hs.ol hc hq
  rw [hv] at cs
  have hcl := cls_bd c hc (c.Cast && decide (k % c.Lanes = c.Lanes - 1))
  have e : ((q : Int) * c.Lanes + (jn : Int)).toNat = q * c.Lanes.toNat + jn := by
   obtain ⟨L,hL⟩ := Int.eq_ofNat_of_zero_le (show 0 ≤ c.Lanes by omega)
   rw [hL]
   have : (q : Int) * (L : Int) = ((q * L : Nat) : Int) := by push_cast; rfl
   rw [this]
   simp
   omega
  have ea : giveAns c s q k i = (decide ((c.cls (c.Cast && decide (k % c.Lanes = c.Lanes - 1))).1 ≤ (jn : Int)) && decide ((jn : Int) < (c.cls (c.Cast && decide (k % c.Lanes = c.Lanes - 1))).1 + (c.cls (c.Cast && decide (k % c.Lanes = c.Lanes - 1))).2) && decide (s.owners.getD (q * c.Lanes.toNat + jn) (-1) = -1)) := by
   unfold giveAns
   simp only [hjn,e]
  rw [hjn,ea]
  refine (router_give1 X Y Z b (10 + q * 4) g o c.Lanes.toNat cc _ _ _ jn w1 ((hd.cell _).trans (by rw [kX.cell]; rfl)) ((hd.cell _).trans (by rw [kY.cell]; rfl)) ((hd.cell _).trans (by rw [kZ.cell]; rfl)) ((hd.cell _).trans cs) (by omega) ((hd.cell _).trans (hcell jn (by omega))) hcl.1 hcl.2).mono ?_
  rintro e w' ⟨rfl,rfl⟩
  exact ⟨rfl,hd⟩
end
open Go.RowKit
section
variable {P : Program}
theorem run_isAgg {t : TypeId} {d : TypeDesc} (hd : P.underlying t = some d) (w : World) : (isAgg t).run P w = .ok d.isRow w := by
 unfold isAgg
 rw [Sem.run_bind,run_underlying hd w]
 cases d <;> simp_all [TypeDesc.isRow]
theorem run_index_one (w : World) (t e : TypeId) (n : Nat) (d : TypeDesc) (cs : Array Value) (k : Nat) (v : Value) (h : P.underlying t = some (.array n e)) (hd : P.underlying e = some d) (hr : d.isRow = false)
  (hi : (P.info? e).map (·.size) = some 1) (hk : k < n) (hv : cs[k]? = some v) : (Instr.index t (.agg cs) (.int .i64 (k : Int))).run P w = .ok v w := by
 obtain ⟨i,hi1,hi2⟩ := Option.map_eq_some_iff.1 hi
 have h1 : (0 : Int) ≤ (k : Int)∧(k : Int) < (n : Int) := by omega
 simp [Instr.index,asIntOf,run_underlying h,Sem.run_bind,h1,sizeOf,typeInfo,hi1,hi2,part,run_isAgg hd,hr,hv]
 intro h2
 omega
theorem run_index_agg (w : World) (t e : TypeId) (n sz : Nat) (d : TypeDesc) (cs : Array Value) (k : Nat) (h : P.underlying t = some (.array n e)) (hd : P.underlying e = some d) (hr : d.isRow = true)
  (hi : (P.info? e).map (·.size) = some sz) (hk : k < n) : (Instr.index t (.agg cs) (.int .i64 (k : Int))).run P w = .ok (.agg (cs.extract (k * sz) (k * sz + sz))) w := by
 obtain ⟨i,hi1,hi2⟩ := Option.map_eq_some_iff.1 hi
 have h1 : (0 : Int) ≤ (k : Int)∧(k : Int) < (n : Int) := by omega
 simp [Instr.index,asIntOf,run_underlying h,Sem.run_bind,h1,sizeOf,typeInfo,hi1,hi2,part,run_isAgg hd,hr]
 intro h2
 omega
end
theorem Blk.set1 {w : World} {b : Nat} {u : Value} {t : TypeId} (h : Blk w b #[u] t) (v : Value) : Blk (w.setCell ⟨b,0,none⟩ v) b #[v] t := h.set 0 v
theorem Blk.made2 (w : World) (o : Obj) (cs : Array Value) (t : TypeId) : Blk ((w.alloc o).alloc (.cells cs t)) (w.heap.size + 1) cs t := by
 have := Blk.made (w.alloc o) cs t
 simpa using this
theorem Blk.madeS (w : World) (p : Addr) (v : Value) (cs : Array Value) (t : TypeId) : Blk ((w.setCell p v).alloc (.cells cs t)) w.heap.size cs t := by
 have := Blk.made (w.setCell p v) cs t
 simpa using this
theorem Blk.drw {w w' : World} {b : Nat} {cs : Array Value} {t : TypeId} (h : Blk w b cs t) (d : Drw w w') : Blk w' b cs t := h.later (d.mod (fun _ => False)) (by simp)
end Go.Proofs.YtfiklfkfbcpmgaaGreat
