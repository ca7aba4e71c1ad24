/- Contracts of package config: Check, Nodes; and of slices.ContainsFunc over numbers. -/
import Derived.Test.YtonnooenebfbeaaGrow
namespace Go.Proofs.Ytonnooenebfbeaa
open Go.RowKit

theorem SlV.new' {w : World} {xs : List Value} (t : TypeId) (b c n : Nat) (cs : Array Value) (hb : w.heap.size = b) (hcs : cs = xs.toArray) (hn : xs.length = n) (hc : n ≤ c := by simp) (hm : c ≤ maxLen := by decide) : SlV (w.alloc (.cells cs t)) (.slice (some ⟨b, 0, none⟩) n c) xs := by
  subst hb
  exact SlV.new t c cs hcs n hn hc hm

/-- A function value that tells something of a number, and turns nothing that lay in w0. -/
structure Tells (w0 : World) (g : Nat) (lb : Array Value) (p : Int → Bool) : Prop where
  enters : ∀ args w, (callFunc g args).run Try.prog w = .ok (.enter g args) w
  call : ∀ (W : World) (x : Int), Mod (fun _ => False) w0 W → Calls Try.prog g (#[.int .i64 x] ++ lb) W fun e w' => e = .returned (.bool (p x)) ∧ Mod (fun _ => False) W w'

/-- Where the first one is of which p holds; -1: none. -/
def idxOf (p : Int → Bool) (xs : List Int) : Int := match xs.findIdx? p with | some k => k | none => -1

set_option maxHeartbeats 400000 in
theorem run_IndexFunc (w0 : World) (g : Nat) (lb : Array Value) (p : Int → Bool) (v : Value) (xs : List Int) (w : World) (hT : Tells w0 g lb p) (h0 : Mod (fun _ => False) w0 w) (hs : SlV w v (xs.map (Value.int .i64))) :
    Calls Try.prog 46 #[v, .func (.func g) #[] lb] w fun e w' => e = .returned (.int .i64 (idxOf p xs)) ∧ Mod (fun _ => False) w w' := by
  have eg := hT.enters
  obtain ⟨a, n, c, rfl, hn, hc, hm, -⟩ := id hs
  rw [List.length_map] at hn
  have HS := Lib.hid hs
  have HN := Lib.hid hn
  unfold maxLen at hm
  clear hs hn
  go_enter Try.func46, Try.ntmps46
  go_wp2
  go_loopw [8] (fun i wr => ∃ k : Nat, k ≤ n ∧ i = .int .i64 k ∧ Mod (fun _ => False) w wr ∧ ∀ j x, j < k → xs[j]? = some x → p x = false) (fun i _ => n - (intOf i).toNat)
  case atStart => exact ⟨0, by omega, rfl, Mod.refl _ _, fun j x hj => by omega⟩
  case round =>
    obtain ⟨k, hk, rfl, hmod, hno⟩ := hrel
    by_cases hlt : k < n
    · obtain ⟨B, off, rfl, hB, hcell⟩ := HS.out.at k hlt
      obtain ⟨x, hx⟩ : ∃ x, xs[k]? = some x := ⟨xs[k]'(by have := HN.out; omega), by rw [List.getElem?_eq_getElem]⟩
      have hcell := (hmod.cell (p := ⟨B, off + k, none⟩) hB (by simp)).trans hcell
      have hv : (xs.map (Value.int .i64)).getD k undef = .int .i64 x := by simp [List.getD_eq_getElem?_getD, hx]
      rw [hv] at hcell
      have HX := Lib.hid hx
      have HO := Lib.hid hno
      clear hv hx hno
      go_wp2_with fail
      refine (hT.call _ x (h0.trans hmod (by simp))).mono ?_
      rintro e w1 ⟨rfl, m1⟩
      cases hp : p x with
      | true =>
        have HP := Lib.hid hp
        clear hp
        go_wp2
        go_ret
        have hi : xs.findIdx? p = some k := by
          rw [List.findIdx?_eq_some_iff_getElem]
          have hk' : k < xs.length := by have := HN.out; omega
          have hxk : xs[k] = x := by have := HX.out; rw [List.getElem?_eq_getElem hk'] at this; exact Option.some.inj this
          refine ⟨hk', by rw [hxk]; exact HP.out, fun j hj => ?_⟩
          have := HO.out j xs[j] hj (List.getElem?_eq_getElem (by omega))
          simp [this]
        exact ⟨by simp [idxOf, hi], hmod.trans m1 (by simp)⟩
      | false =>
        have HP := Lib.hid hp
        clear hp
        go_wp2
        go_roundw
        case rel => exact ⟨k + 1, by omega, by go_num, hmod.trans m1 (by simp), fun j y hj hy => by
          by_cases e : j = k
          · subst e
            have h1 := HX.out
            rw [hy] at h1
            obtain rfl := Option.some.inj h1
            exact HP.out
          · exact HO.out j y (by omega) hy⟩
        case measure => simp [intOf]; omega
    · have hf : xs.findIdx? p = none := by
        rw [List.findIdx?_eq_none_iff]
        intro x hx
        obtain ⟨j, hj, rfl⟩ := List.mem_iff_getElem.1 hx
        exact hno j _ (by have := HN.out; omega) (List.getElem?_eq_getElem hj)
      have HF := Lib.hid hf
      clear hno hf
      go_wp2
      go_ret
      exact ⟨by simp [idxOf, HF.out], hmod⟩

set_option maxHeartbeats 400000 in
theorem run_ContainsFunc (w0 : World) (g : Nat) (lb : Array Value) (p : Int → Bool) (v : Value) (xs : List Int) (w : World) (hT : Tells w0 g lb p) (h0 : Mod (fun _ => False) w0 w) (hs : SlV w v (xs.map (Value.int .i64))) :
    Calls Try.prog 36 #[v, .func (.func g) #[] lb] w fun e w' => e = .returned (.bool (xs.any p)) ∧ Mod (fun _ => False) w w' := by
  obtain ⟨a, n, c, rfl, -⟩ := id hs
  have HS := Lib.hid hs
  clear hs
  have hv : (decide (0 ≤ idxOf p xs)) = xs.any p := by
    unfold idxOf
    cases hf : xs.findIdx? p with
    | some k =>
      rw [List.findIdx?_eq_some_iff_getElem] at hf
      obtain ⟨hk, hp, _⟩ := hf
      have : xs.any p = true := List.any_eq_true.2 ⟨xs[k], List.getElem_mem hk, hp⟩
      simp [this]
    | none =>
      rw [List.findIdx?_eq_none_iff] at hf
      have : xs.any p = false := List.any_eq_false.2 fun x hx => by simp [hf x hx]
      simp [this]
  go_enter Try.func36, Try.ntmps36
  go_wp2_with fail
  refine (run_IndexFunc w0 g lb p _ xs w hT h0 HS.out).mono ?_
  rintro e w1 ⟨rfl, m1⟩
  go_wp2
  go_ret
  exact ⟨by rw [← hv]; rfl, m1⟩

/-- Is a number from 1 on, up to m? -/
def in1 (m n : Int) : Bool := decide (1 ≤ n) && decide (n ≤ m)

theorem tells_within (B : Nat) (m : Int) (w : World) (hB : Blk w B #[.int .i64 m] 3) :
    Tells w 58 #[.pointer (some ⟨B, 0, none⟩)] (fun n => !in1 m n) where
  enters := enters_of Try.func58 (by kernel_rfl) rfl
  call := by
    intro W x hm
    have hc := (hB.later hm (by simp)).cell 0
    simp at hc
    by_cases h1 : x < 1
    · have e : (!in1 m x) = true := by unfold in1; simp; omega
      have E := Lib.hid e
      clear e
      go_enter Try.func58, Try.ntmps58
      go_wp2
      go_ret
      exact ⟨by rw [E.out]; rfl, Mod.refl _ _⟩
    · have e : (!in1 m x) = decide (m < x) := by
        unfold in1
        by_cases h : m < x
        · simp [h]
        · simp [h]; omega
      have E := Lib.hid e
      clear e
      go_enter Try.func58, Try.ntmps58
      go_wp2
      go_ret
      exact ⟨by rw [E.out]; rfl, Mod.refl _ _⟩

set_option maxHeartbeats 400000 in
theorem run_within (m : Int) (v : Value) (xs : List Int) (w : World) (hs : SlV w v (xs.map (Value.int .i64))) :
    Calls Try.prog 45 #[.int .i64 m, v] w fun e w' => e = .returned (.bool (xs.all (in1 m))) ∧ Mod (fun _ => False) w w' := by
  have hmf : ∀ (fn : Fn) (first cap : Array Value) (w : World), (Instr.makeFunc fn first cap).run Try.prog w = .ok (.func fn first cap) w := fun _ _ _ _ => rfl
  obtain ⟨a, n, c, rfl, -⟩ := id hs
  have m0 : Mod (fun _ => False) w (w.alloc (.cells #[.int .i64 m] 3)) := (Mod.refl _ _).alloc _
  have HS := Lib.hid (hs.later m0 (by simp))
  clear hs
  have hv : (!(xs.any fun n => !in1 m n)) = xs.all (in1 m) := by rw [List.not_any_eq_all_not]; simp
  have HV := Lib.hid hv
  clear hv
  go_enter Try.func45, Try.ntmps45
  go_wp2_with fail
  refine (run_ContainsFunc _ _ _ _ _ xs _ (tells_within w.heap.size m _ (Blk.made _ _ _)) (Mod.refl _ _) HS.out).mono ?_
  rintro e w1 ⟨rfl, m1⟩
  go_wp2
  go_ret
  exact ⟨by rw [← HV.out]; rfl, m0.trans m1 (by simp)⟩

/-- A config. -/
structure Cfg where
  W : Int
  H : Int
  Lanes : Int
  Depth : Int
  Ring : Int
  Inbox : Int
  Bound : Int
  West : Bool
  Cast : Bool
abbrev Cfg.cells (c : Cfg) : Array Value := #[.int .i64 c.W, .int .i64 c.H, .int .i64 c.Lanes, .int .i64 c.Depth, .int .i64 c.Ring, .int .i64 c.Inbox, .int .i64 c.Bound, .bool c.West, .bool c.Cast]
/-- Why a config may not be; 0: it may. -/
def Cfg.chk (c : Cfg) : Int :=
  if ([c.W, c.H].all (in1 64)) = false then 4
  else if ([c.Lanes].all (in1 8)) = false then 10
  else if (c.Cast && c.Lanes == 1) = true then 10
  else if ([c.Depth, c.Ring, c.Inbox].all (in1 64)) = false then 10
  else if ([c.Bound].all (in1 16)) = false then 10
  else 0
def Cfg.nodes (c : Cfg) : Int := if c.chk = 0 then c.W * c.H else 0

set_option maxHeartbeats 800000 in
theorem run_Check (c : Cfg) (w : World) :
    Calls Try.prog 31 #[.agg c.cells] w fun e w' => e = .returned (.int .i64 c.chk) ∧ Mod (fun _ => False) w w' := by
  obtain ⟨W, H, Ln, D, R, I, B, we, ca⟩ := c
  simp only [Cfg.cells]
  have kb := Blk.made w #[.int .i64 W, .int .i64 H, .int .i64 Ln, .int .i64 D, .int .i64 R, .int .i64 I, .int .i64 B, .bool we, .bool ca] 25
  go_enter Try.func31, Try.ntmps31
  go_wp2_with fail
  refine (run_within 64 _ [W, H] _ (SlV.new' _ (w.heap.size + 1) _ _ _ (by simp) rfl rfl)).mono ?_
  rintro e w1 ⟨rfl, m1⟩
  have k1 := (kb.alloc (.cells #[.int .i64 W, .int .i64 H] 3)).later m1 (by simp)
  have mm1 := (((Mod.refl (fun _ => False) w).alloc (.cells #[.int .i64 W, .int .i64 H, .int .i64 Ln, .int .i64 D, .int .i64 R, .int .i64 I, .int .i64 B, .bool we, .bool ca] 25)).alloc (.cells #[.int .i64 W, .int .i64 H] 3)).trans m1 (by simp)
  clear kb m1
  cases h1 : [W, H].all (in1 64) with
  | false =>
    have H1 := Lib.hid h1
    clear h1
    go_wp2
    go_ret
    exact ⟨by simp only [Cfg.chk, H1.out, if_true]; rfl, mm1⟩
  | true =>
  have H1 := Lib.hid h1
  have c2 := k1.cell 2
  simp at c2
  clear h1
  go_wp2_with fail
  refine (run_within 8 _ [Ln] _ (SlV.new' _ _ _ _ _ rfl rfl rfl)).mono ?_
  rintro e w2 ⟨rfl, m2⟩
  have k2 := (k1.alloc (.cells #[.int .i64 Ln] 3)).later m2 (by simp)
  have mm2 := (mm1.alloc (.cells #[.int .i64 Ln] 3)).trans m2 (by simp)
  clear k1 mm1 m2 c2
  cases h2 : [Ln].all (in1 8) with
  | false =>
    have H2 := Lib.hid h2
    clear h2
    go_wp2
    go_ret
    exact ⟨by simp only [Cfg.chk, H1.out, H2.out, if_true]; rfl, mm2⟩
  | true =>
  have H2 := Lib.hid h2
  have c2 := k2.cell 2
  have c3 := k2.cell 3
  have c4 := k2.cell 4
  have c5 := k2.cell 5
  have c8 := k2.cell 8
  simp at c2 c3 c4 c5 c8
  clear h2
  cases hca : (ca && Ln == 1) with
  | true =>
    obtain ⟨rfl, hl⟩ : ca = true ∧ (Ln == 1) = true := by simpa using hca
    have H3 := Lib.hid hca
    clear hca
    go_wp2
    go_ret
    exact ⟨by simp only [Cfg.chk, H1.out, H2.out, H3.out, if_true]; rfl, mm2⟩
  | false =>
  have H3 := Lib.hid hca
  have hce : ca = false ∨ (ca = true ∧ (Ln == 1) = false) := by
    cases ca
    · exact Or.inl rfl
    · exact Or.inr ⟨rfl, by simpa using hca⟩
  clear hca
  rcases hce with rfl | ⟨rfl, hl⟩
  all_goals
    go_wp2_with fail
    refine (run_within 64 _ [D, R, I] _ (SlV.new' _ _ _ _ _ rfl rfl rfl)).mono ?_
    rintro e w3 ⟨rfl, m3⟩
    have k3 := (k2.alloc (.cells #[.int .i64 D, .int .i64 R, .int .i64 I] 3)).later m3 (by simp)
    have mm3 := (mm2.alloc (.cells #[.int .i64 D, .int .i64 R, .int .i64 I] 3)).trans m3 (by simp)
    have c6 := k3.cell 6
    simp at c6
    clear k2 mm2 m3 c2 c3 c4 c5 c8
    cases h4 : [D, R, I].all (in1 64) with
    | false =>
      have H4 := Lib.hid h4
      clear h4
      go_wp2
      go_ret
      exact ⟨by simp only [Cfg.chk, H1.out, H2.out, H3.out, H4.out, if_true]; rfl, mm3⟩
    | true =>
    have H4 := Lib.hid h4
    clear h4
    go_wp2_with fail
    refine (run_within 16 _ [B] _ (SlV.new' _ _ _ _ _ rfl rfl rfl)).mono ?_
    rintro e w4 ⟨rfl, m4⟩
    have mm4 := (mm3.alloc (.cells #[.int .i64 B] 3)).trans m4 (by simp)
    cases h5 : [B].all (in1 16) with
    | false =>
      have H5 := Lib.hid h5
      clear h5
      go_wp2
      go_ret
      exact ⟨by simp only [Cfg.chk, H1.out, H2.out, H3.out, H4.out, H5.out, if_true]; rfl, mm4⟩
    | true =>
      have H5 := Lib.hid h5
      clear h5
      go_wp2
      go_ret
      exact ⟨by simp only [Cfg.chk, H1.out, H2.out, H3.out, H4.out, H5.out]; rfl, mm4⟩

/-- What a config that may be is like. -/
structure Cfg.Ok (c : Cfg) : Prop where
  W1 : 1 ≤ c.W
  W2 : c.W ≤ 64
  H1 : 1 ≤ c.H
  H2 : c.H ≤ 64
  L1 : 1 ≤ c.Lanes
  L2 : c.Lanes ≤ 8
  C : c.Cast = true → 2 ≤ c.Lanes
  D1 : 1 ≤ c.Depth
  D2 : c.Depth ≤ 64
  R1 : 1 ≤ c.Ring
  R2 : c.Ring ≤ 64
  I1 : 1 ≤ c.Inbox
  I2 : c.Inbox ≤ 64
  B1 : 1 ≤ c.Bound
  B2 : c.Bound ≤ 16
theorem in1_iff (m n : Int) : in1 m n = true ↔ 1 ≤ n ∧ n ≤ m := by simp [in1]
theorem Cfg.ok_of (c : Cfg) (h : c.chk = 0) : c.Ok := by
  unfold Cfg.chk at h
  split at h
  · omega
  rename_i h1
  split at h
  · omega
  rename_i h2
  split at h
  · omega
  rename_i h3
  split at h
  · omega
  rename_i h4
  split at h
  · omega
  rename_i h5
  simp only [Bool.not_eq_false, List.all_cons, List.all_nil, Bool.and_true, Bool.and_eq_true, in1_iff] at h1 h2 h4 h5
  have h3' : c.Cast = true → c.Lanes ≠ 1 := by
    intro hc he
    apply h3
    simp [hc, he]
  exact ⟨h1.1.1, h1.1.2, h1.2.1, h1.2.2, h2.1, h2.2, fun hc => by have := h3' hc; omega, h4.1.1, h4.1.2, h4.2.1.1, h4.2.1.2, h4.2.2.1, h4.2.2.2, h5.1, h5.2⟩
theorem Cfg.chk_of (c : Cfg) (h : c.Ok) : c.chk = 0 := by
  unfold Cfg.chk
  have a1 : [c.W, c.H].all (in1 64) = true := by simp [in1, h.W1, h.W2, h.H1, h.H2]
  have a2 : [c.Lanes].all (in1 8) = true := by simp [in1, h.L1, h.L2]
  have a3 : (c.Cast && c.Lanes == 1) = false := by
    cases hc : c.Cast with
    | false => rfl
    | true =>
      have := h.C hc
      simp; omega
  have a4 : [c.Depth, c.Ring, c.Inbox].all (in1 64) = true := by simp [in1, h.D1, h.D2, h.R1, h.R2, h.I1, h.I2]
  have a5 : [c.Bound].all (in1 16) = true := by simp [in1, h.B1, h.B2]
  rw [a1, a2, a3, a4, a5]
  rfl
theorem Cfg.chk_iff (c : Cfg) : c.chk = 0 ↔ c.Ok := ⟨c.ok_of, c.chk_of⟩
theorem mul_le_4096 {a b : Int} (a1 : 1 ≤ a) (a2 : a ≤ 64) (b1 : 1 ≤ b) (b2 : b ≤ 64) : 1 ≤ a * b ∧ a * b ≤ 4096 := by
  constructor
  · have := Int.mul_le_mul a1 b1 (by omega) (by omega)
    simpa using this
  · have := Int.mul_le_mul a2 b2 (by omega) (by omega)
    simpa using this
theorem Cfg.nodes_bd (c : Cfg) : 0 ≤ c.nodes ∧ c.nodes ≤ 4096 := by
  unfold Cfg.nodes
  split
  · rename_i h
    have k := c.ok_of h
    have := mul_le_4096 k.W1 k.W2 k.H1 k.H2
    omega
  · omega

set_option maxHeartbeats 400000 in
theorem run_Nodes (c : Cfg) (w : World) :
    Calls Try.prog 32 #[.agg c.cells] w fun e w' => e = .returned (.int .i64 c.nodes) ∧ Mod (fun _ => False) w w' := by
  have kb := Blk.made w c.cells 25
  have m0 : Mod (fun _ => False) w (w.alloc (.cells c.cells 25)) := (Mod.refl _ _).alloc _
  simp only [Cfg.cells] at kb m0 ⊢
  go_enter Try.func32, Try.ntmps32
  go_wp2_with fail
  refine (run_Check c _).mono ?_
  rintro e w1 ⟨rfl, m1⟩
  have k1 := kb.later m1 (by simp)
  have mm := m0.trans m1 (by simp)
  clear kb m0 m1
  by_cases h : c.chk = 0
  · have k := c.ok_of h
    have hb := mul_le_4096 k.W1 k.W2 k.H1 k.H2
    have hw : wrap64 (c.W * c.H) = c.W * c.H := by unfold wrap64; omega
    have hn : c.nodes = c.W * c.H := by unfold Cfg.nodes; rw [if_pos h]
    have HW := Lib.hid hw
    have HN := Lib.hid hn
    have c0 := k1.cell 0
    have c1 := k1.cell 1
    simp at c0 c1
    rw [h]
    clear h hw hn k hb
    go_wp2
    go_ret
    exact ⟨by rw [HN.out]; show Ending.returned (.int .i64 (wrap64 (c.W * c.H))) = _; rw [HW.out], mm⟩
  · have hn : c.nodes = 0 := by unfold Cfg.nodes; rw [if_neg h]
    have h1 : (c.chk == 0) = false := by simpa using h
    have h2 : (c.chk != 0) = true := by simpa using h
    have HN := Lib.hid hn
    clear hn h
    go_wp2
    go_ret
    exact ⟨by rw [HN.out]; rfl, mm⟩

end Go.Proofs.Ytonnooenebfbeaa
