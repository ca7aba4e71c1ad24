/- config.Text: a config's text. -/
import Derived.Test.YthmohnoloonfoaaDoorCfgLib
import Derived.Test.YthmohnoloonfoaaDoorGrow
import Derived.Lib.ItoaLen
namespace Go.Proofs.YthmohnoloonfoaaDoor
open Go.RowKit

def Cfg.wf (c : Cfg) : Prop := ∀ n ∈ [c.W, c.H, c.Lanes, c.Depth, c.Ring, c.Inbox, c.Bound], (Lit.int .i64 n).wf = true
def Cfg.nums (c : Cfg) : List Int := [c.H, c.Lanes, c.Depth, c.Ring, c.Inbox, c.Bound]
def westL : List UInt8 := [119, 101, 115, 116]
def castL : List UInt8 := [99, 97, 115, 116]
def Cfg.wordsL (c : Cfg) : List (List UInt8) := c.nums.map Lib.itoa ++ (if c.West then [westL] else []) ++ (if c.Cast then [castL] else [])
def Cfg.txt (c : Cfg) : List UInt8 := Lib.itoa c.W ++ [120] ++ Lib.join c.wordsL [32]

theorem itoa_len (n : Int) (h : (Lit.int .i64 n).wf = true) : (Lib.itoa n).length ≤ 21 := Lib.itoa_length_le n (bounds_i64 h).1 (bounds_i64 h).2

theorem own_later' {w w' : World} {base : Nat} {e : TypeId} {size : Nat} {v : Value} {n : Nat} {xs : List Value} (h : w.ownsRow base e size v n xs) (m : Mod (fun _ => False) w w') : w'.ownsRow base e size v n xs :=
  h.kept (row := none) ⟨m.os, m.tape, m.output, m.size, fun q hq _ => m.block q hq (by simp)⟩ (by cases hv : Value.ownBlock v <;> simp)

theorem cells9 {w : World} {b : Nat} {c : Cfg} {t : TypeId} (h : Blk w b c.cells t) :
    w.cell? ⟨b, 0, none⟩ = some (.int .i64 c.W) ∧ w.cell? ⟨b, 1, none⟩ = some (.int .i64 c.H) ∧ w.cell? ⟨b, 2, none⟩ = some (.int .i64 c.Lanes) ∧ w.cell? ⟨b, 3, none⟩ = some (.int .i64 c.Depth) ∧ w.cell? ⟨b, 4, none⟩ = some (.int .i64 c.Ring) ∧
    w.cell? ⟨b, 5, none⟩ = some (.int .i64 c.Inbox) ∧ w.cell? ⟨b, 6, none⟩ = some (.int .i64 c.Bound) ∧ w.cell? ⟨b, 7, none⟩ = some (.bool c.West) ∧ w.cell? ⟨b, 8, none⟩ = some (.bool c.Cast) :=
  ⟨h.cell 0, h.cell 1, h.cell 2, h.cell 3, h.cell 4, h.cell 5, h.cell 6, h.cell 7, h.cell 8⟩

theorem info_str : (Tryd.prog.info? 9).map (fun i => (i.zero, i.size, i.bytes)) = some (some (.string ⟨#[]⟩), 1, 16) := by kernel_rfl

theorem join_len (l : List (List UInt8)) (m : Nat) (h : ∀ x ∈ l, x.length ≤ m) : (Lib.join l [32]).length ≤ l.length * (m + 1) := by
  induction l with
  | nil => simp [Lib.join]
  | cons x l ih =>
    have h1 := h x (by simp)
    have h2 := ih (fun y hy => h y (by simp [hy]))
    cases l with
    | nil => simp [Lib.join, List.intercalate]; omega
    | cons y l =>
      have e : Lib.join (x :: y :: l) [32] = x ++ [32] ++ Lib.join (y :: l) [32] := by simp [Lib.join, List.intercalate, List.intersperse]
      rw [e]
      simp only [List.length_append, List.length_cons, List.length_nil] at h2 ⊢
      have : (l.length + 1 + 1) * (m + 1) = (l.length + 1) * (m + 1) + (m + 1) := by rw [Nat.add_mul (l.length + 1) 1]; omega
      omega
theorem words_len (N : List Int) (hl : N.length = 6) (hw : ∀ n ∈ N, (Lit.int .i64 n).wf = true) (r : List (List UInt8)) (hr : r.length ≤ 2 ∧ ∀ x ∈ r, x.length ≤ 4) : (Lib.join (N.map Lib.itoa ++ r) [32]).length ≤ 200 := by
  have := join_len (N.map Lib.itoa ++ r) 21 (fun x hx => by
    rcases List.mem_append.1 hx with hx | hx
    · obtain ⟨n, hn, rfl⟩ := List.mem_map.1 hx
      exact itoa_len n (hw n hn)
    · have := hr.2 x hx
      omega)
  simp [hl] at this ⊢
  have h2 := hr.1
  have : (6 + r.length) * 22 ≤ 8 * 22 := Nat.mul_le_mul_right _ (by omega)
  omega
theorem cat3 (a b : List UInt8) (c : ByteArray) : mkS a ++ c ++ mkS b = mkS (a ++ c.data.toList ++ b) := by
  apply ByteArray.ext
  simp [mkS]

theorem slv_eq {w : World} {v : Value} {xs ys : List Value} (h : SlV w v xs) (e : xs = ys) : SlV w v ys := e ▸ h

def sws (l : List (List UInt8)) : List Value := l.map fun x => .string (mkS x)
theorem sws_snoc (l : List (List UInt8)) (x : List UInt8) : sws (l ++ [x]) = sws l ++ [.string (mkS x)] := by simp [sws]

-- FOUR WALKS
set_option maxRecDepth 100000 in
set_option maxHeartbeats 1600000 in
theorem run_Text_false_false (W H La D R I B : Int) (hc : (⟨W, H, La, D, R, I, B, false, false⟩ : Cfg).wf) (w : World) (L : LibV w) :
    Calls Tryd.prog 15 #[.agg (⟨W, H, La, D, R, I, B, false, false⟩ : Cfg).cells] w fun e w' => e = .returned (.string (mkS (⟨W, H, La, D, R, I, B, false, false⟩ : Cfg).txt)) ∧ Mod (fun _ => False) w w' := by
  have kb := (Blk.made w #[.int .i64 W, .int .i64 H, .int .i64 La, .int .i64 D, .int .i64 R, .int .i64 I, .int .i64 B, .bool false, .bool false] 23).alloc (.cells #[.int .i64 H, .int .i64 La, .int .i64 D, .int .i64 R, .int .i64 I, .int .i64 B] 3)
  have kn := Blk.made (w.alloc (.cells #[.int .i64 W, .int .i64 H, .int .i64 La, .int .i64 D, .int .i64 R, .int .i64 I, .int .i64 B, .bool false, .bool false] 23)) #[.int .i64 H, .int .i64 La, .int .i64 D, .int .i64 R, .int .i64 I, .int .i64 B] 3
  have m0 : Mod (fun _ => False) w ((w.alloc (.cells #[.int .i64 W, .int .i64 H, .int .i64 La, .int .i64 D, .int .i64 R, .int .i64 I, .int .i64 B, .bool false, .bool false] 23)).alloc (.cells #[.int .i64 H, .int .i64 La, .int .i64 D, .int .i64 R, .int .i64 I, .int .i64 B] 3)) := ((Mod.refl _ _).alloc _).alloc _
  simp only [World.size_alloc] at kn
  have HC := Lib.hid hc
  have HL := Lib.hid L
  obtain ⟨N, hN⟩ : ∃ N, [H, La, D, R, I, B] = N := ⟨_, rfl⟩
  have hNl : N.length = 6 := by rw [← hN]; rfl
  have hNw : ∀ n ∈ N, (Lit.int .i64 n).wf = true := fun n hn => hc n (by rw [← hN] at hn; exact List.mem_cons_of_mem _ hn)
  have hNk : ∀ k : Nat, (#[.int .i64 H, .int .i64 La, .int .i64 D, .int .i64 R, .int .i64 I, .int .i64 B] : Array Value)[k]? = (N.map (Value.int .i64))[k]? := fun k => by rw [← hN]; simp
  obtain ⟨WL, hWL⟩ : ∃ WL, (⟨W, H, La, D, R, I, B, false, false⟩ : Cfg).wordsL = WL := ⟨_, rfl⟩
  have hW2 : WL = N.map Lib.itoa ++ [] := by rw [← hWL, ← hN]; simp [Cfg.wordsL, Cfg.nums]
  have hjl : (Lib.join WL [32]).length ≤ 200 := by rw [hW2]; exact words_len N hNl hNw _ (by first | simp [westL, castL] | simp)
  have HFIN := Lib.hid (show (⟨W, H, La, D, R, I, B, false, false⟩ : Cfg).txt = Lib.itoa W ++ [120] ++ Lib.join WL [32] from by rw [← hWL]; rfl)
  have HNL := Lib.hid hNl
  have HNW := Lib.hid hNw
  have HNK := Lib.hid hNk
  have HW2 := Lib.hid hW2
  clear hc L hN hNl hNw hNk hWL hW2
  simp only [Cfg.cells] at kb kn m0 ⊢
  go_enter Tryd.func15, Tryd.ntmps15
  go_wp2
  generalize (w.alloc (.cells #[.int .i64 W, .int .i64 H, .int .i64 La, .int .i64 D, .int .i64 R, .int .i64 I, .int .i64 B, .bool false, .bool false] 23)).alloc (.cells #[.int .i64 H, .int .i64 La, .int .i64 D, .int .i64 R, .int .i64 I, .int .i64 B] 3) = w1 at kb kn m0 ⊢
  have hsl : w.heap.size + 1 < w1.heap.size := kn.lt
  go_loopw [3, 5, 20] (fun o n i wr => ∃ k : Nat, k ≤ 6 ∧ i = .int .i64 k ∧ wr.ownsRow w1.heap.size 9 1 o k (sws ((N.take k).map Lib.itoa)) ∧ Mod (fun g => w1.heap.size ≤ g) w1 wr) (fun _ _ i _ => 6 - (intOf i).toNat)
  case atStart => exact ⟨0, by omega, by simp, World.ownsRow_nil _ _ _ _, Mod.refl _ _⟩
  case round =>
    obtain ⟨k, hk, rfl, hown, hm⟩ := hrel
    obtain ⟨wA, rfl⟩ : ∃ wo : World, wo = wr := ⟨_, rfl⟩
    have hsz := hm.size
    have mA : Mod (fun _ => False) w wA := m0.trans hm (fun i hi h => by omega)
    have LA := Lib.hid (HL.out.later0 mA)
    by_cases hlt : k < 6
    · obtain ⟨n, hn⟩ : ∃ n, N[k]? = some n := ⟨_, List.getElem?_eq_getElem (by rw [HNL.out]; exact hlt)⟩
      have HWN := Lib.hid (HNW.out n (List.mem_of_getElem? hn))
      have dn : wA.cell? ⟨w.heap.size + 1, k, none⟩ = some (.int .i64 n) := by
        rw [hm.cell (p := ⟨w.heap.size + 1, k, none⟩) hsl (Nat.not_le.2 hsl), kn.cell, HNK.out, List.getElem?_map, hn]
        rfl
      have hst : sws ((N.take (k + 1)).map Lib.itoa) = sws ((N.take k).map Lib.itoa) ++ [.string (mkS (Lib.itoa n))] := by
        rw [List.take_add_one, hn]
        simp [sws]
      have HST := Lib.hid hst
      clear hn hst
      have b0 : (0 : Int) ≤ (k : Int) := by omega
      have b1 : (k : Int) < 6 := by omega
      go_wp2_with fail
      refine (run_Itoa n HWN.out _ LA.out).mono ?_
      rintro e w2 ⟨rfl, m2⟩
      have hown2 := own_later' hown m2
      have hm2 := hm.trans m2 (fun i hi e => e.elim)
      have hsz2 := hm2.size
      have hlow := fun i e => (hown2.lt i e).1
      clear hown hm m2 dn
      generalize mkS (Lib.itoa n) = x at HST ⊢
      go_wp2_with (at_builtin; refine wpList_appendE rfl _ _ 41 rfl w1.heap.size 9 (.string ⟨#[]⟩) 1 16 Tryd.underlying41 info_str rfl (by decide) _ _ _ rfl hown2 #[_] rfl rfl (by simp [Value.oneCell']) (by unfold maxLen; omega) (by omega) (by omega) ?_; intro g cap wz hown7 hm7 hat7)
      have hmz := hm2.trans hm7 (fun i hi e => hlow i e)
      go_roundw
      case rel => exact ⟨k + 1, by omega, by go_num, by rw [HST.out]; simpa using hown7, hmz⟩
      case measure => simp [intOf]; omega
    · obtain rfl : k = 6 := by omega
      have hown6 : wA.ownsRow w1.heap.size 9 1 u3 6 (sws (N.map Lib.itoa)) := by
        have e : N.take 6 = N := List.take_of_length_le (by rw [HNL.out]; omega)
        rw [e] at hown
        exact hown
      have kB := kb.later hm (by omega)
      have d0 := kB.cell 0
      have d7 := kB.cell 7
      have d8 := kB.cell 8
      simp at d0 d7 d8
      have HSWX := Lib.hid (HC.out W (by simp))
      have hlow := fun i e => (hown6.lt i e).1
      clear hown
      go_wp2_with fail
      have mD : Mod (fun _ => False) w _ := m0.trans hm (fun i hi h => by omega)
      have LD := Lib.hid (HL.out.later0 mD)
      have SD := SlV.own hown6
      refine (run_Itoa W HSWX.out _ LD.out).mono ?_
      rintro e w5 ⟨rfl, m5⟩
      have mE := mD.trans m5 (by simp)
      have SE := Lib.hid (SD.later m5 (by simp))
      have hs1 : (mkS (Lib.itoa W)).size ≤ 21 := itoa_len W HSWX.out
      obtain ⟨sW, hsW⟩ : ∃ sW, mkS (Lib.itoa W) = sW := ⟨_, rfl⟩
      rw [hsW] at hs1 ⊢
      have HSW := Lib.hid hsW
      have SF := slv_eq SE.out (ys := (WL.map mkS).map Value.string) (by rw [HW2.out]; simp [sws, westL, castL, Function.comp_def])
      have SFH := Lib.hid SF
      have hdl : ((WL.map mkS).map (·.data.toList)) = WL := by simp [Function.comp_def, mkS]
      have HDL := Lib.hid hdl
      have hwn : WL.length ≤ 8 := by rw [HW2.out]; simp [HNL.out]
      clear hsW SF SD SE mD m5 LD hdl
      go_wp2_with fail
      refine (run_Join _ (WL.map mkS) ⟨#[32]⟩ _ SFH.out (by rw [HDL.out]; show (Lib.join WL [32]).length ≤ _; omega) (by simp; omega)).mono ?_
      rw [HDL.out]
      rintro e w6 ⟨rfl, m6⟩
      have mF := mE.trans m6 (by simp)
      have hs2 : (mkS (Lib.join WL [32])).size ≤ 200 := hjl
      change (Lib.join WL [32]).length ≤ 200 at hjl
      obtain ⟨sJ, hsJ⟩ : ∃ sJ, mkS (Lib.join WL (ByteArray.data ⟨#[32]⟩).toList) = sJ := ⟨_, rfl⟩
      have hs3 : sJ.size ≤ 200 := by rw [← hsJ]; exact hjl
      rw [hsJ]
      have HSJ := Lib.hid hsJ
      clear hsJ SFH m6 hjl hs2
      go_wp2
      go_ret
      refine ⟨?_, mF⟩
      rw [HFIN.out, ← HSW.out, ← HSJ.out]
      exact congrArg (fun s => Ending.returned (.string s)) (cat3 _ _ _)

set_option maxRecDepth 100000 in
set_option maxHeartbeats 1600000 in
theorem run_Text_false_true (W H La D R I B : Int) (hc : (⟨W, H, La, D, R, I, B, false, true⟩ : Cfg).wf) (w : World) (L : LibV w) :
    Calls Tryd.prog 15 #[.agg (⟨W, H, La, D, R, I, B, false, true⟩ : Cfg).cells] w fun e w' => e = .returned (.string (mkS (⟨W, H, La, D, R, I, B, false, true⟩ : Cfg).txt)) ∧ Mod (fun _ => False) w w' := by
  have kb := (Blk.made w #[.int .i64 W, .int .i64 H, .int .i64 La, .int .i64 D, .int .i64 R, .int .i64 I, .int .i64 B, .bool false, .bool true] 23).alloc (.cells #[.int .i64 H, .int .i64 La, .int .i64 D, .int .i64 R, .int .i64 I, .int .i64 B] 3)
  have kn := Blk.made (w.alloc (.cells #[.int .i64 W, .int .i64 H, .int .i64 La, .int .i64 D, .int .i64 R, .int .i64 I, .int .i64 B, .bool false, .bool true] 23)) #[.int .i64 H, .int .i64 La, .int .i64 D, .int .i64 R, .int .i64 I, .int .i64 B] 3
  have m0 : Mod (fun _ => False) w ((w.alloc (.cells #[.int .i64 W, .int .i64 H, .int .i64 La, .int .i64 D, .int .i64 R, .int .i64 I, .int .i64 B, .bool false, .bool true] 23)).alloc (.cells #[.int .i64 H, .int .i64 La, .int .i64 D, .int .i64 R, .int .i64 I, .int .i64 B] 3)) := ((Mod.refl _ _).alloc _).alloc _
  simp only [World.size_alloc] at kn
  have HC := Lib.hid hc
  have HL := Lib.hid L
  obtain ⟨N, hN⟩ : ∃ N, [H, La, D, R, I, B] = N := ⟨_, rfl⟩
  have hNl : N.length = 6 := by rw [← hN]; rfl
  have hNw : ∀ n ∈ N, (Lit.int .i64 n).wf = true := fun n hn => hc n (by rw [← hN] at hn; exact List.mem_cons_of_mem _ hn)
  have hNk : ∀ k : Nat, (#[.int .i64 H, .int .i64 La, .int .i64 D, .int .i64 R, .int .i64 I, .int .i64 B] : Array Value)[k]? = (N.map (Value.int .i64))[k]? := fun k => by rw [← hN]; simp
  obtain ⟨WL, hWL⟩ : ∃ WL, (⟨W, H, La, D, R, I, B, false, true⟩ : Cfg).wordsL = WL := ⟨_, rfl⟩
  have hW2 : WL = N.map Lib.itoa ++ [castL] := by rw [← hWL, ← hN]; simp [Cfg.wordsL, Cfg.nums]
  have hjl : (Lib.join WL [32]).length ≤ 200 := by rw [hW2]; exact words_len N hNl hNw _ (by first | simp [westL, castL] | simp)
  have HFIN := Lib.hid (show (⟨W, H, La, D, R, I, B, false, true⟩ : Cfg).txt = Lib.itoa W ++ [120] ++ Lib.join WL [32] from by rw [← hWL]; rfl)
  have HNL := Lib.hid hNl
  have HNW := Lib.hid hNw
  have HNK := Lib.hid hNk
  have HW2 := Lib.hid hW2
  clear hc L hN hNl hNw hNk hWL hW2
  simp only [Cfg.cells] at kb kn m0 ⊢
  go_enter Tryd.func15, Tryd.ntmps15
  go_wp2
  generalize (w.alloc (.cells #[.int .i64 W, .int .i64 H, .int .i64 La, .int .i64 D, .int .i64 R, .int .i64 I, .int .i64 B, .bool false, .bool true] 23)).alloc (.cells #[.int .i64 H, .int .i64 La, .int .i64 D, .int .i64 R, .int .i64 I, .int .i64 B] 3) = w1 at kb kn m0 ⊢
  have hsl : w.heap.size + 1 < w1.heap.size := kn.lt
  go_loopw [3, 5, 20] (fun o n i wr => ∃ k : Nat, k ≤ 6 ∧ i = .int .i64 k ∧ wr.ownsRow w1.heap.size 9 1 o k (sws ((N.take k).map Lib.itoa)) ∧ Mod (fun g => w1.heap.size ≤ g) w1 wr) (fun _ _ i _ => 6 - (intOf i).toNat)
  case atStart => exact ⟨0, by omega, by simp, World.ownsRow_nil _ _ _ _, Mod.refl _ _⟩
  case round =>
    obtain ⟨k, hk, rfl, hown, hm⟩ := hrel
    obtain ⟨wA, rfl⟩ : ∃ wo : World, wo = wr := ⟨_, rfl⟩
    have hsz := hm.size
    have mA : Mod (fun _ => False) w wA := m0.trans hm (fun i hi h => by omega)
    have LA := Lib.hid (HL.out.later0 mA)
    by_cases hlt : k < 6
    · obtain ⟨n, hn⟩ : ∃ n, N[k]? = some n := ⟨_, List.getElem?_eq_getElem (by rw [HNL.out]; exact hlt)⟩
      have HWN := Lib.hid (HNW.out n (List.mem_of_getElem? hn))
      have dn : wA.cell? ⟨w.heap.size + 1, k, none⟩ = some (.int .i64 n) := by
        rw [hm.cell (p := ⟨w.heap.size + 1, k, none⟩) hsl (Nat.not_le.2 hsl), kn.cell, HNK.out, List.getElem?_map, hn]
        rfl
      have hst : sws ((N.take (k + 1)).map Lib.itoa) = sws ((N.take k).map Lib.itoa) ++ [.string (mkS (Lib.itoa n))] := by
        rw [List.take_add_one, hn]
        simp [sws]
      have HST := Lib.hid hst
      clear hn hst
      have b0 : (0 : Int) ≤ (k : Int) := by omega
      have b1 : (k : Int) < 6 := by omega
      go_wp2_with fail
      refine (run_Itoa n HWN.out _ LA.out).mono ?_
      rintro e w2 ⟨rfl, m2⟩
      have hown2 := own_later' hown m2
      have hm2 := hm.trans m2 (fun i hi e => e.elim)
      have hsz2 := hm2.size
      have hlow := fun i e => (hown2.lt i e).1
      clear hown hm m2 dn
      generalize mkS (Lib.itoa n) = x at HST ⊢
      go_wp2_with (at_builtin; refine wpList_appendE rfl _ _ 41 rfl w1.heap.size 9 (.string ⟨#[]⟩) 1 16 Tryd.underlying41 info_str rfl (by decide) _ _ _ rfl hown2 #[_] rfl rfl (by simp [Value.oneCell']) (by unfold maxLen; omega) (by omega) (by omega) ?_; intro g cap wz hown7 hm7 hat7)
      have hmz := hm2.trans hm7 (fun i hi e => hlow i e)
      go_roundw
      case rel => exact ⟨k + 1, by omega, by go_num, by rw [HST.out]; simpa using hown7, hmz⟩
      case measure => simp [intOf]; omega
    · obtain rfl : k = 6 := by omega
      have hown6 : wA.ownsRow w1.heap.size 9 1 u3 6 (sws (N.map Lib.itoa)) := by
        have e : N.take 6 = N := List.take_of_length_le (by rw [HNL.out]; omega)
        rw [e] at hown
        exact hown
      have kB := kb.later hm (by omega)
      have d0 := kB.cell 0
      have d7 := kB.cell 7
      have d8 := kB.cell 8
      simp at d0 d7 d8
      have HSWX := Lib.hid (HC.out W (by simp))
      have hlow := fun i e => (hown6.lt i e).1
      clear hown
      go_upto_region 11 with (at_builtin; refine wpList_appendE rfl _ _ 41 rfl w1.heap.size 9 (.string ⟨#[]⟩) 1 16 Tryd.underlying41 info_str rfl (by decide) _ _ _ rfl hown6 #[_] rfl rfl (by simp [Value.oneCell']) (by unfold maxLen; omega) (by omega) (by omega) ?_; intro g2 cap2 wq hown7 hm7 hat8)
      have mV := hm.trans (S := fun g => w1.heap.size ≤ g) hm7 (fun i hi e => hlow i e)
      have kV := kb.later mV (by omega)
      have f0 := kV.cell 0
      have f8 := kV.cell 8
      simp at f0 f8
      go_wp2_with fail
      have mD : Mod (fun _ => False) w _ := m0.trans mV (fun i hi h => by omega)
      have LD := Lib.hid (HL.out.later0 mD)
      have SD := SlV.own hown7
      refine (run_Itoa W HSWX.out _ LD.out).mono ?_
      rintro e w5 ⟨rfl, m5⟩
      have mE := mD.trans m5 (by simp)
      have SE := Lib.hid (SD.later m5 (by simp))
      have hs1 : (mkS (Lib.itoa W)).size ≤ 21 := itoa_len W HSWX.out
      obtain ⟨sW, hsW⟩ : ∃ sW, mkS (Lib.itoa W) = sW := ⟨_, rfl⟩
      rw [hsW] at hs1 ⊢
      have HSW := Lib.hid hsW
      have SF := slv_eq SE.out (ys := (WL.map mkS).map Value.string) (by rw [HW2.out]; simp [sws, westL, castL, Function.comp_def])
      have SFH := Lib.hid SF
      have hdl : ((WL.map mkS).map (·.data.toList)) = WL := by simp [Function.comp_def, mkS]
      have HDL := Lib.hid hdl
      have hwn : WL.length ≤ 8 := by rw [HW2.out]; simp [HNL.out]
      clear hsW SF SD SE mD m5 LD hdl
      go_wp2_with fail
      refine (run_Join _ (WL.map mkS) ⟨#[32]⟩ _ SFH.out (by rw [HDL.out]; show (Lib.join WL [32]).length ≤ _; omega) (by simp; omega)).mono ?_
      rw [HDL.out]
      rintro e w6 ⟨rfl, m6⟩
      have mF := mE.trans m6 (by simp)
      have hs2 : (mkS (Lib.join WL [32])).size ≤ 200 := hjl
      change (Lib.join WL [32]).length ≤ 200 at hjl
      obtain ⟨sJ, hsJ⟩ : ∃ sJ, mkS (Lib.join WL (ByteArray.data ⟨#[32]⟩).toList) = sJ := ⟨_, rfl⟩
      have hs3 : sJ.size ≤ 200 := by rw [← hsJ]; exact hjl
      rw [hsJ]
      have HSJ := Lib.hid hsJ
      clear hsJ SFH m6 hjl hs2
      go_wp2
      go_ret
      refine ⟨?_, mF⟩
      rw [HFIN.out, ← HSW.out, ← HSJ.out]
      exact congrArg (fun s => Ending.returned (.string s)) (cat3 _ _ _)

set_option maxRecDepth 100000 in
set_option maxHeartbeats 1600000 in
theorem run_Text_true_false (W H La D R I B : Int) (hc : (⟨W, H, La, D, R, I, B, true, false⟩ : Cfg).wf) (w : World) (L : LibV w) :
    Calls Tryd.prog 15 #[.agg (⟨W, H, La, D, R, I, B, true, false⟩ : Cfg).cells] w fun e w' => e = .returned (.string (mkS (⟨W, H, La, D, R, I, B, true, false⟩ : Cfg).txt)) ∧ Mod (fun _ => False) w w' := by
  have kb := (Blk.made w #[.int .i64 W, .int .i64 H, .int .i64 La, .int .i64 D, .int .i64 R, .int .i64 I, .int .i64 B, .bool true, .bool false] 23).alloc (.cells #[.int .i64 H, .int .i64 La, .int .i64 D, .int .i64 R, .int .i64 I, .int .i64 B] 3)
  have kn := Blk.made (w.alloc (.cells #[.int .i64 W, .int .i64 H, .int .i64 La, .int .i64 D, .int .i64 R, .int .i64 I, .int .i64 B, .bool true, .bool false] 23)) #[.int .i64 H, .int .i64 La, .int .i64 D, .int .i64 R, .int .i64 I, .int .i64 B] 3
  have m0 : Mod (fun _ => False) w ((w.alloc (.cells #[.int .i64 W, .int .i64 H, .int .i64 La, .int .i64 D, .int .i64 R, .int .i64 I, .int .i64 B, .bool true, .bool false] 23)).alloc (.cells #[.int .i64 H, .int .i64 La, .int .i64 D, .int .i64 R, .int .i64 I, .int .i64 B] 3)) := ((Mod.refl _ _).alloc _).alloc _
  simp only [World.size_alloc] at kn
  have HC := Lib.hid hc
  have HL := Lib.hid L
  obtain ⟨N, hN⟩ : ∃ N, [H, La, D, R, I, B] = N := ⟨_, rfl⟩
  have hNl : N.length = 6 := by rw [← hN]; rfl
  have hNw : ∀ n ∈ N, (Lit.int .i64 n).wf = true := fun n hn => hc n (by rw [← hN] at hn; exact List.mem_cons_of_mem _ hn)
  have hNk : ∀ k : Nat, (#[.int .i64 H, .int .i64 La, .int .i64 D, .int .i64 R, .int .i64 I, .int .i64 B] : Array Value)[k]? = (N.map (Value.int .i64))[k]? := fun k => by rw [← hN]; simp
  obtain ⟨WL, hWL⟩ : ∃ WL, (⟨W, H, La, D, R, I, B, true, false⟩ : Cfg).wordsL = WL := ⟨_, rfl⟩
  have hW2 : WL = N.map Lib.itoa ++ [westL] := by rw [← hWL, ← hN]; simp [Cfg.wordsL, Cfg.nums]
  have hjl : (Lib.join WL [32]).length ≤ 200 := by rw [hW2]; exact words_len N hNl hNw _ (by first | simp [westL, castL] | simp)
  have HFIN := Lib.hid (show (⟨W, H, La, D, R, I, B, true, false⟩ : Cfg).txt = Lib.itoa W ++ [120] ++ Lib.join WL [32] from by rw [← hWL]; rfl)
  have HNL := Lib.hid hNl
  have HNW := Lib.hid hNw
  have HNK := Lib.hid hNk
  have HW2 := Lib.hid hW2
  clear hc L hN hNl hNw hNk hWL hW2
  simp only [Cfg.cells] at kb kn m0 ⊢
  go_enter Tryd.func15, Tryd.ntmps15
  go_wp2
  generalize (w.alloc (.cells #[.int .i64 W, .int .i64 H, .int .i64 La, .int .i64 D, .int .i64 R, .int .i64 I, .int .i64 B, .bool true, .bool false] 23)).alloc (.cells #[.int .i64 H, .int .i64 La, .int .i64 D, .int .i64 R, .int .i64 I, .int .i64 B] 3) = w1 at kb kn m0 ⊢
  have hsl : w.heap.size + 1 < w1.heap.size := kn.lt
  go_loopw [3, 5, 20] (fun o n i wr => ∃ k : Nat, k ≤ 6 ∧ i = .int .i64 k ∧ wr.ownsRow w1.heap.size 9 1 o k (sws ((N.take k).map Lib.itoa)) ∧ Mod (fun g => w1.heap.size ≤ g) w1 wr) (fun _ _ i _ => 6 - (intOf i).toNat)
  case atStart => exact ⟨0, by omega, by simp, World.ownsRow_nil _ _ _ _, Mod.refl _ _⟩
  case round =>
    obtain ⟨k, hk, rfl, hown, hm⟩ := hrel
    obtain ⟨wA, rfl⟩ : ∃ wo : World, wo = wr := ⟨_, rfl⟩
    have hsz := hm.size
    have mA : Mod (fun _ => False) w wA := m0.trans hm (fun i hi h => by omega)
    have LA := Lib.hid (HL.out.later0 mA)
    by_cases hlt : k < 6
    · obtain ⟨n, hn⟩ : ∃ n, N[k]? = some n := ⟨_, List.getElem?_eq_getElem (by rw [HNL.out]; exact hlt)⟩
      have HWN := Lib.hid (HNW.out n (List.mem_of_getElem? hn))
      have dn : wA.cell? ⟨w.heap.size + 1, k, none⟩ = some (.int .i64 n) := by
        rw [hm.cell (p := ⟨w.heap.size + 1, k, none⟩) hsl (Nat.not_le.2 hsl), kn.cell, HNK.out, List.getElem?_map, hn]
        rfl
      have hst : sws ((N.take (k + 1)).map Lib.itoa) = sws ((N.take k).map Lib.itoa) ++ [.string (mkS (Lib.itoa n))] := by
        rw [List.take_add_one, hn]
        simp [sws]
      have HST := Lib.hid hst
      clear hn hst
      have b0 : (0 : Int) ≤ (k : Int) := by omega
      have b1 : (k : Int) < 6 := by omega
      go_wp2_with fail
      refine (run_Itoa n HWN.out _ LA.out).mono ?_
      rintro e w2 ⟨rfl, m2⟩
      have hown2 := own_later' hown m2
      have hm2 := hm.trans m2 (fun i hi e => e.elim)
      have hsz2 := hm2.size
      have hlow := fun i e => (hown2.lt i e).1
      clear hown hm m2 dn
      generalize mkS (Lib.itoa n) = x at HST ⊢
      go_wp2_with (at_builtin; refine wpList_appendE rfl _ _ 41 rfl w1.heap.size 9 (.string ⟨#[]⟩) 1 16 Tryd.underlying41 info_str rfl (by decide) _ _ _ rfl hown2 #[_] rfl rfl (by simp [Value.oneCell']) (by unfold maxLen; omega) (by omega) (by omega) ?_; intro g cap wz hown7 hm7 hat7)
      have hmz := hm2.trans hm7 (fun i hi e => hlow i e)
      go_roundw
      case rel => exact ⟨k + 1, by omega, by go_num, by rw [HST.out]; simpa using hown7, hmz⟩
      case measure => simp [intOf]; omega
    · obtain rfl : k = 6 := by omega
      have hown6 : wA.ownsRow w1.heap.size 9 1 u3 6 (sws (N.map Lib.itoa)) := by
        have e : N.take 6 = N := List.take_of_length_le (by rw [HNL.out]; omega)
        rw [e] at hown
        exact hown
      have kB := kb.later hm (by omega)
      have d0 := kB.cell 0
      have d7 := kB.cell 7
      have d8 := kB.cell 8
      simp at d0 d7 d8
      have HSWX := Lib.hid (HC.out W (by simp))
      have hlow := fun i e => (hown6.lt i e).1
      clear hown
      go_upto_region 9 with (at_builtin; refine wpList_appendE rfl _ _ 41 rfl w1.heap.size 9 (.string ⟨#[]⟩) 1 16 Tryd.underlying41 info_str rfl (by decide) _ _ _ rfl hown6 #[_] rfl rfl (by simp [Value.oneCell']) (by unfold maxLen; omega) (by omega) (by omega) ?_; intro g1 cap1 wp hown7 hm7 hat7)
      have mV := hm.trans (S := fun g => w1.heap.size ≤ g) hm7 (fun i hi e => hlow i e)
      have kV := kb.later mV (by omega)
      have f0 := kV.cell 0
      have f8 := kV.cell 8
      simp at f0 f8
      go_wp2_with fail
      have mD : Mod (fun _ => False) w _ := m0.trans mV (fun i hi h => by omega)
      have LD := Lib.hid (HL.out.later0 mD)
      have SD := SlV.own hown7
      refine (run_Itoa W HSWX.out _ LD.out).mono ?_
      rintro e w5 ⟨rfl, m5⟩
      have mE := mD.trans m5 (by simp)
      have SE := Lib.hid (SD.later m5 (by simp))
      have hs1 : (mkS (Lib.itoa W)).size ≤ 21 := itoa_len W HSWX.out
      obtain ⟨sW, hsW⟩ : ∃ sW, mkS (Lib.itoa W) = sW := ⟨_, rfl⟩
      rw [hsW] at hs1 ⊢
      have HSW := Lib.hid hsW
      have SF := slv_eq SE.out (ys := (WL.map mkS).map Value.string) (by rw [HW2.out]; simp [sws, westL, castL, Function.comp_def])
      have SFH := Lib.hid SF
      have hdl : ((WL.map mkS).map (·.data.toList)) = WL := by simp [Function.comp_def, mkS]
      have HDL := Lib.hid hdl
      have hwn : WL.length ≤ 8 := by rw [HW2.out]; simp [HNL.out]
      clear hsW SF SD SE mD m5 LD hdl
      go_wp2_with fail
      refine (run_Join _ (WL.map mkS) ⟨#[32]⟩ _ SFH.out (by rw [HDL.out]; show (Lib.join WL [32]).length ≤ _; omega) (by simp; omega)).mono ?_
      rw [HDL.out]
      rintro e w6 ⟨rfl, m6⟩
      have mF := mE.trans m6 (by simp)
      have hs2 : (mkS (Lib.join WL [32])).size ≤ 200 := hjl
      change (Lib.join WL [32]).length ≤ 200 at hjl
      obtain ⟨sJ, hsJ⟩ : ∃ sJ, mkS (Lib.join WL (ByteArray.data ⟨#[32]⟩).toList) = sJ := ⟨_, rfl⟩
      have hs3 : sJ.size ≤ 200 := by rw [← hsJ]; exact hjl
      rw [hsJ]
      have HSJ := Lib.hid hsJ
      clear hsJ SFH m6 hjl hs2
      go_wp2
      go_ret
      refine ⟨?_, mF⟩
      rw [HFIN.out, ← HSW.out, ← HSJ.out]
      exact congrArg (fun s => Ending.returned (.string s)) (cat3 _ _ _)

set_option maxRecDepth 100000 in
set_option maxHeartbeats 1600000 in
theorem run_Text_true_true (W H La D R I B : Int) (hc : (⟨W, H, La, D, R, I, B, true, true⟩ : Cfg).wf) (w : World) (L : LibV w) :
    Calls Tryd.prog 15 #[.agg (⟨W, H, La, D, R, I, B, true, true⟩ : Cfg).cells] w fun e w' => e = .returned (.string (mkS (⟨W, H, La, D, R, I, B, true, true⟩ : Cfg).txt)) ∧ Mod (fun _ => False) w w' := by
  have kb := (Blk.made w #[.int .i64 W, .int .i64 H, .int .i64 La, .int .i64 D, .int .i64 R, .int .i64 I, .int .i64 B, .bool true, .bool true] 23).alloc (.cells #[.int .i64 H, .int .i64 La, .int .i64 D, .int .i64 R, .int .i64 I, .int .i64 B] 3)
  have kn := Blk.made (w.alloc (.cells #[.int .i64 W, .int .i64 H, .int .i64 La, .int .i64 D, .int .i64 R, .int .i64 I, .int .i64 B, .bool true, .bool true] 23)) #[.int .i64 H, .int .i64 La, .int .i64 D, .int .i64 R, .int .i64 I, .int .i64 B] 3
  have m0 : Mod (fun _ => False) w ((w.alloc (.cells #[.int .i64 W, .int .i64 H, .int .i64 La, .int .i64 D, .int .i64 R, .int .i64 I, .int .i64 B, .bool true, .bool true] 23)).alloc (.cells #[.int .i64 H, .int .i64 La, .int .i64 D, .int .i64 R, .int .i64 I, .int .i64 B] 3)) := ((Mod.refl _ _).alloc _).alloc _
  simp only [World.size_alloc] at kn
  have HC := Lib.hid hc
  have HL := Lib.hid L
  obtain ⟨N, hN⟩ : ∃ N, [H, La, D, R, I, B] = N := ⟨_, rfl⟩
  have hNl : N.length = 6 := by rw [← hN]; rfl
  have hNw : ∀ n ∈ N, (Lit.int .i64 n).wf = true := fun n hn => hc n (by rw [← hN] at hn; exact List.mem_cons_of_mem _ hn)
  have hNk : ∀ k : Nat, (#[.int .i64 H, .int .i64 La, .int .i64 D, .int .i64 R, .int .i64 I, .int .i64 B] : Array Value)[k]? = (N.map (Value.int .i64))[k]? := fun k => by rw [← hN]; simp
  obtain ⟨WL, hWL⟩ : ∃ WL, (⟨W, H, La, D, R, I, B, true, true⟩ : Cfg).wordsL = WL := ⟨_, rfl⟩
  have hW2 : WL = N.map Lib.itoa ++ [westL, castL] := by rw [← hWL, ← hN]; simp [Cfg.wordsL, Cfg.nums]
  have hjl : (Lib.join WL [32]).length ≤ 200 := by rw [hW2]; exact words_len N hNl hNw _ (by first | simp [westL, castL] | simp)
  have HFIN := Lib.hid (show (⟨W, H, La, D, R, I, B, true, true⟩ : Cfg).txt = Lib.itoa W ++ [120] ++ Lib.join WL [32] from by rw [← hWL]; rfl)
  have HNL := Lib.hid hNl
  have HNW := Lib.hid hNw
  have HNK := Lib.hid hNk
  have HW2 := Lib.hid hW2
  clear hc L hN hNl hNw hNk hWL hW2
  simp only [Cfg.cells] at kb kn m0 ⊢
  go_enter Tryd.func15, Tryd.ntmps15
  go_wp2
  generalize (w.alloc (.cells #[.int .i64 W, .int .i64 H, .int .i64 La, .int .i64 D, .int .i64 R, .int .i64 I, .int .i64 B, .bool true, .bool true] 23)).alloc (.cells #[.int .i64 H, .int .i64 La, .int .i64 D, .int .i64 R, .int .i64 I, .int .i64 B] 3) = w1 at kb kn m0 ⊢
  have hsl : w.heap.size + 1 < w1.heap.size := kn.lt
  go_loopw [3, 5, 20] (fun o n i wr => ∃ k : Nat, k ≤ 6 ∧ i = .int .i64 k ∧ wr.ownsRow w1.heap.size 9 1 o k (sws ((N.take k).map Lib.itoa)) ∧ Mod (fun g => w1.heap.size ≤ g) w1 wr) (fun _ _ i _ => 6 - (intOf i).toNat)
  case atStart => exact ⟨0, by omega, by simp, World.ownsRow_nil _ _ _ _, Mod.refl _ _⟩
  case round =>
    obtain ⟨k, hk, rfl, hown, hm⟩ := hrel
    obtain ⟨wA, rfl⟩ : ∃ wo : World, wo = wr := ⟨_, rfl⟩
    have hsz := hm.size
    have mA : Mod (fun _ => False) w wA := m0.trans hm (fun i hi h => by omega)
    have LA := Lib.hid (HL.out.later0 mA)
    by_cases hlt : k < 6
    · obtain ⟨n, hn⟩ : ∃ n, N[k]? = some n := ⟨_, List.getElem?_eq_getElem (by rw [HNL.out]; exact hlt)⟩
      have HWN := Lib.hid (HNW.out n (List.mem_of_getElem? hn))
      have dn : wA.cell? ⟨w.heap.size + 1, k, none⟩ = some (.int .i64 n) := by
        rw [hm.cell (p := ⟨w.heap.size + 1, k, none⟩) hsl (Nat.not_le.2 hsl), kn.cell, HNK.out, List.getElem?_map, hn]
        rfl
      have hst : sws ((N.take (k + 1)).map Lib.itoa) = sws ((N.take k).map Lib.itoa) ++ [.string (mkS (Lib.itoa n))] := by
        rw [List.take_add_one, hn]
        simp [sws]
      have HST := Lib.hid hst
      clear hn hst
      have b0 : (0 : Int) ≤ (k : Int) := by omega
      have b1 : (k : Int) < 6 := by omega
      go_wp2_with fail
      refine (run_Itoa n HWN.out _ LA.out).mono ?_
      rintro e w2 ⟨rfl, m2⟩
      have hown2 := own_later' hown m2
      have hm2 := hm.trans m2 (fun i hi e => e.elim)
      have hsz2 := hm2.size
      have hlow := fun i e => (hown2.lt i e).1
      clear hown hm m2 dn
      generalize mkS (Lib.itoa n) = x at HST ⊢
      go_wp2_with (at_builtin; refine wpList_appendE rfl _ _ 41 rfl w1.heap.size 9 (.string ⟨#[]⟩) 1 16 Tryd.underlying41 info_str rfl (by decide) _ _ _ rfl hown2 #[_] rfl rfl (by simp [Value.oneCell']) (by unfold maxLen; omega) (by omega) (by omega) ?_; intro g cap wz hown7 hm7 hat7)
      have hmz := hm2.trans hm7 (fun i hi e => hlow i e)
      go_roundw
      case rel => exact ⟨k + 1, by omega, by go_num, by rw [HST.out]; simpa using hown7, hmz⟩
      case measure => simp [intOf]; omega
    · obtain rfl : k = 6 := by omega
      have hown6 : wA.ownsRow w1.heap.size 9 1 u3 6 (sws (N.map Lib.itoa)) := by
        have e : N.take 6 = N := List.take_of_length_le (by rw [HNL.out]; omega)
        rw [e] at hown
        exact hown
      have kB := kb.later hm (by omega)
      have d0 := kB.cell 0
      have d7 := kB.cell 7
      have d8 := kB.cell 8
      simp at d0 d7 d8
      have HSWX := Lib.hid (HC.out W (by simp))
      have hlow := fun i e => (hown6.lt i e).1
      clear hown
      go_upto_region 9 with (at_builtin; refine wpList_appendE rfl _ _ 41 rfl w1.heap.size 9 (.string ⟨#[]⟩) 1 16 Tryd.underlying41 info_str rfl (by decide) _ _ _ rfl hown6 #[_] rfl rfl (by simp [Value.oneCell']) (by unfold maxLen; omega) (by omega) (by omega) ?_; intro g1 cap1 wp hown7 hm7 hat7)
      have mW := hm.trans (S := fun g => w1.heap.size ≤ g) hm7 (fun i hi e => hlow i e)
      have kB2 := kb.later mW (by omega)
      have hlow := fun i e => (hown7.lt i e).1
      have hsz7 := mW.size
      have e0 := kB2.cell 0
      have e8 := kB2.cell 8
      simp at e0 e8
      go_upto_region 11 with (at_builtin; refine wpList_appendE rfl _ _ 41 rfl w1.heap.size 9 (.string ⟨#[]⟩) 1 16 Tryd.underlying41 info_str rfl (by decide) _ _ _ rfl hown7 #[_] rfl rfl (by simp [Value.oneCell']) (by unfold maxLen; omega) (by omega) (by omega) ?_; intro g2 cap2 wq hown8 hm8 hat8)
      have mV := mW.trans (S := fun g => w1.heap.size ≤ g) hm8 (fun i hi e => hlow i e)
      have kV := kb.later mV (by omega)
      have f0 := kV.cell 0
      have f8 := kV.cell 8
      simp at f0 f8
      go_wp2_with fail
      have mD : Mod (fun _ => False) w _ := m0.trans mV (fun i hi h => by omega)
      have LD := Lib.hid (HL.out.later0 mD)
      have SD := SlV.own hown8
      refine (run_Itoa W HSWX.out _ LD.out).mono ?_
      rintro e w5 ⟨rfl, m5⟩
      have mE := mD.trans m5 (by simp)
      have SE := Lib.hid (SD.later m5 (by simp))
      have hs1 : (mkS (Lib.itoa W)).size ≤ 21 := itoa_len W HSWX.out
      obtain ⟨sW, hsW⟩ : ∃ sW, mkS (Lib.itoa W) = sW := ⟨_, rfl⟩
      rw [hsW] at hs1 ⊢
      have HSW := Lib.hid hsW
      have SF := slv_eq SE.out (ys := (WL.map mkS).map Value.string) (by rw [HW2.out]; simp [sws, westL, castL, Function.comp_def])
      have SFH := Lib.hid SF
      have hdl : ((WL.map mkS).map (·.data.toList)) = WL := by simp [Function.comp_def, mkS]
      have HDL := Lib.hid hdl
      have hwn : WL.length ≤ 8 := by rw [HW2.out]; simp [HNL.out]
      clear hsW SF SD SE mD m5 LD hdl
      go_wp2_with fail
      refine (run_Join _ (WL.map mkS) ⟨#[32]⟩ _ SFH.out (by rw [HDL.out]; show (Lib.join WL [32]).length ≤ _; omega) (by simp; omega)).mono ?_
      rw [HDL.out]
      rintro e w6 ⟨rfl, m6⟩
      have mF := mE.trans m6 (by simp)
      have hs2 : (mkS (Lib.join WL [32])).size ≤ 200 := hjl
      change (Lib.join WL [32]).length ≤ 200 at hjl
      obtain ⟨sJ, hsJ⟩ : ∃ sJ, mkS (Lib.join WL (ByteArray.data ⟨#[32]⟩).toList) = sJ := ⟨_, rfl⟩
      have hs3 : sJ.size ≤ 200 := by rw [← hsJ]; exact hjl
      rw [hsJ]
      have HSJ := Lib.hid hsJ
      clear hsJ SFH m6 hjl hs2
      go_wp2
      go_ret
      refine ⟨?_, mF⟩
      rw [HFIN.out, ← HSW.out, ← HSJ.out]
      exact congrArg (fun s => Ending.returned (.string s)) (cat3 _ _ _)

theorem run_Text (c : Cfg) (hc : c.wf) (w : World) (L : LibV w) :
    Calls Tryd.prog 15 #[.agg c.cells] w fun e w' => e = .returned (.string (mkS c.txt)) ∧ Mod (fun _ => False) w w' := by
  obtain ⟨W, H, La, D, R, I, B, we, ca⟩ := c
  cases we <;> cases ca
  · exact run_Text_false_false W H La D R I B hc w L
  · exact run_Text_false_true W H La D R I B hc w L
  · exact run_Text_true_false W H La D R I B hc w L
  · exact run_Text_true_true W H La D R I B hc w L

end Go.Proofs.YthmohnoloonfoaaDoor
