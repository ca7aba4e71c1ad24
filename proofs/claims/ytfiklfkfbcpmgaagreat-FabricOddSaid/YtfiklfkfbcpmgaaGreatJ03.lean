/- Parts: Cfg Grid GridB GridC SnakeA SnakeB Flit FairA. No condition. -/
import Derived.Test.YtfiklfkfbcpmgaaGreatJ01
set_option linter.all false
set_option maxRecDepth 100000
set_option maxHeartbeats 3200000
namespace Go.Proofs.YtfiklfkfbcpmgaaGreat
open Go.RowKit
theorem SlV.new' {w : World} {xs : List Value} (t : TypeId) (b c n : Nat) (cs : Array Value) (hb : w.heap.size = b) (hcs : cs = xs.toArray) (hn : xs.length = n) (hc : n ≤ c := by simp) (hm : c ≤ maxLen := by decide) : SlV (w.alloc (.cells cs t)) (.slice (some ⟨b,0,none⟩) n c) xs := by
 subst hb
 exact SlV.new t c cs hcs n hn hc hm
structure Tells (w0 : World) (g : Nat) (lb : Array Value) (p : Int→Bool) : Prop where
 enters : ∀ args w,(callFunc g args).run Tryz.prog w = .ok (.enter g args) w
 call : ∀ (W : World) (x : Int),Mod (fun _ => False) w0 W→Calls Tryz.prog g (#[.int .i64 x] ++ lb) W fun e w' => e = .returned (.bool (p x))∧Mod (fun _ => False) W w'
def idxOf (p : Int→Bool) (xs : List Int) : Int := match xs.findIdx? p with | some k => k | none => -1
theorem run_IndexFunc (w0 : World) (g : Nat) (lb : Array Value) (p : Int→Bool) (v : Value) (xs : List Int) (w : World) (hT : Tells w0 g lb p) (h0 : Mod (fun _ => False) w0 w) (hs : SlV w v (xs.map (Value.int .i64))) :
  Calls Tryz.prog 186 #[v,.func (.func g) #[] lb] w fun e w' => e = .returned (.int .i64 (idxOf p xs))∧Mod (fun _ => False) w w' := by
 have eg := hT.enters
 obtain ⟨a,n,c,rfl,hn,hc,hm,-⟩ := id hs
 rw [List.length_map] at hn
 have HS := Lib.hid hs
 have HN := Lib.hid hn
 unfold maxLen at hm
 clear hs hn
 go_enter Tryz.func186,Tryz.ntmps186
 go_wp2
 go_loopw [8] (fun i wr => ∃ k : Nat,k ≤ n∧i = .int .i64 k∧Mod (fun _ => False) w wr∧∀ j x,j < k→xs[j]? = some x→p x = false) (fun i _ => n - (intOf i).toNat)
 case atStart => exact ⟨0,by omega,rfl,Mod.refl _ _,fun j x hj => by omega⟩
 case round =>
  obtain ⟨k,hk,rfl,hmod,hno⟩ := hrel
  by_cases hlt : k < n
  ·
   obtain ⟨B,off,rfl,hB,hcell⟩ := HS.out.at k hlt
   obtain ⟨x,hx⟩ : ∃ x,xs[k]? = some x := ⟨xs[k]'(by have := HN.out; omega),by rw [List.getElem?_eq_getElem]⟩
   have hcell := (hmod.cell (p := ⟨B,off + k,none⟩) hB (by simp)).trans hcell
   have hv : (xs.map (Value.int .i64)).getD k undef = .int .i64 x := by simp [List.getD_eq_getElem?_getD,hx]
   rw [hv] at hcell
   have HX := Lib.hid hx
   have HO := Lib.hid hno
   clear hv hx hno
   go_wp2_with fail
   refine (hT.call _ x (h0.trans hmod (by simp))).mono ?_
   rintro e w1 ⟨rfl,m1⟩
   cases hp : p x with
   | true =>
    have HP := Lib.hid hp
    clear hp
    go_wp2
    go_ret
    have hi : xs.findIdx? p = some k := by
     rw [List.findIdx?_eq_some_iff_getElem]
     have hk' : k < xs.length := by have := HN.out; omega
     have hxk : xs[k] = x := by have := HX.out; rw [List.getElem?_eq_getElem hk'] at this; exact Option.some.inj this
     refine ⟨hk',by rw [hxk]; exact HP.out,fun j hj => ?_⟩
     have := HO.out j xs[j] hj (List.getElem?_eq_getElem (by omega))
     simp [this]
    exact ⟨by simp [idxOf,hi],hmod.trans m1 (by simp)⟩
   | false =>
    have HP := Lib.hid hp
    clear hp
    go_wp2
    go_roundw
    case rel => exact ⟨k + 1,by omega,by go_num,hmod.trans m1 (by simp),fun j y hj hy => by
     by_cases e : j = k
     ·
      subst e
      have h1 := HX.out
      rw [hy] at h1
      obtain rfl := Option.some.inj h1
      exact HP.out
     ·
      exact HO.out j y (by omega) hy⟩
    case measure => simp [intOf]; omega
  ·
   have hf : xs.findIdx? p = none := by
    rw [List.findIdx?_eq_none_iff]
    intro x hx
    obtain ⟨j,hj,rfl⟩ := List.mem_iff_getElem.1 hx
    exact hno j _ (by have := HN.out; omega) (List.getElem?_eq_getElem hj)
   have HF := Lib.hid hf
   clear hno hf
   go_wp2
   go_ret
   exact ⟨by simp [idxOf,HF.out],hmod⟩
theorem run_ContainsFunc (w0 : World) (g : Nat) (lb : Array Value) (p : Int→Bool) (v : Value) (xs : List Int) (w : World) (hT : Tells w0 g lb p) (h0 : Mod (fun _ => False) w0 w) (hs : SlV w v (xs.map (Value.int .i64))) :
  Calls Tryz.prog 158 #[v,.func (.func g) #[] lb] w fun e w' => e = .returned (.bool (xs.any p))∧Mod (fun _ => False) w w' := by
 obtain ⟨a,n,c,rfl,-⟩ := id hs
 have HS := Lib.hid hs
 clear hs
 have hv : (decide (0 ≤ idxOf p xs)) = xs.any p := by
  unfold idxOf
  cases hf : xs.findIdx? p with
  | some k =>
   rw [List.findIdx?_eq_some_iff_getElem] at hf
   obtain ⟨hk,hp,_⟩ := hf
   have : xs.any p = true := List.any_eq_true.2 ⟨xs[k],List.getElem_mem hk,hp⟩
   simp [this]
  | none =>
   rw [List.findIdx?_eq_none_iff] at hf
   have : xs.any p = false := List.any_eq_false.2 fun x hx => by simp [hf x hx]
   simp [this]
 go_enter Tryz.func158,Tryz.ntmps158
 go_wp2_with fail
 refine (run_IndexFunc w0 g lb p _ xs w hT h0 HS.out).mono ?_
 rintro e w1 ⟨rfl,m1⟩
 go_wp2
 go_ret
 exact ⟨by rw [← hv]; rfl,m1⟩
def in1 (m n : Int) : Bool := decide (1 ≤ n) && decide (n ≤ m)
theorem tells_within (B : Nat) (m : Int) (w : World) (hB : Blk w B #[.int .i64 m] 3) :
  Tells w 159 #[.pointer (some ⟨B,0,none⟩)] (fun n => !in1 m n) where
 enters := enters_of Tryz.func159 (by kernel_rfl) rfl
 call := by
  intro W x hm
  have hc := (hB.later hm (by simp)).cell 0
  simp at hc
  by_cases h1 : x < 1
  ·
   have e : (!in1 m x) = true := by unfold in1; simp; omega
   have E := Lib.hid e
   clear e
   go_enter Tryz.func159,Tryz.ntmps159
   go_wp2
   go_ret
   exact ⟨by rw [E.out]; rfl,Mod.refl _ _⟩
  ·
   have e : (!in1 m x) = decide (m < x) := by
    unfold in1
    by_cases h : m < x
    ·
     simp [h]
    ·
     simp [h]; omega
   have E := Lib.hid e
   clear e
   go_enter Tryz.func159,Tryz.ntmps159
   go_wp2
   go_ret
   exact ⟨by rw [E.out]; rfl,Mod.refl _ _⟩
theorem run_within (m : Int) (v : Value) (xs : List Int) (w : World) (hs : SlV w v (xs.map (Value.int .i64))) :
  Calls Tryz.prog 114 #[.int .i64 m,v] w fun e w' => e = .returned (.bool (xs.all (in1 m)))∧Mod (fun _ => False) w w' := by
 have hmf : ∀ (fn : Fn) (first cap : Array Value) (w : World),(Instr.makeFunc fn first cap).run Tryz.prog w = .ok (.func fn first cap) w := fun _ _ _ _ => rfl
 obtain ⟨a,n,c,rfl,-⟩ := id hs
 have m0 : Mod (fun _ => False) w (w.alloc (.cells #[.int .i64 m] 3)) := (Mod.refl _ _).alloc _
 have HS := Lib.hid (hs.later m0 (by simp))
 clear hs
 have hv : (!(xs.any fun n => !in1 m n)) = xs.all (in1 m) := by rw [List.not_any_eq_all_not]; simp
 have HV := Lib.hid hv
 clear hv
 go_enter Tryz.func114,Tryz.ntmps114
 go_wp2_with fail
 refine (run_ContainsFunc _ _ _ _ _ xs _ (tells_within w.heap.size m _ (Blk.made _ _ _)) (Mod.refl _ _) HS.out).mono ?_
 rintro e w1 ⟨rfl,m1⟩
 go_wp2
 go_ret
 exact ⟨by rw [← HV.out]; rfl,m0.trans m1 (by simp)⟩
structure Cfg where
 W : Int
 H : Int
 Lanes : Int
 Depth : Int
 Ring : Int
 Inbox : Int
 Bound : Int
 West : Bool
 Cast : Bool
abbrev Cfg.cells (c : Cfg) : Array Value := #[.int .i64 c.W,.int .i64 c.H,.int .i64 c.Lanes,.int .i64 c.Depth,.int .i64 c.Ring,.int .i64 c.Inbox,.int .i64 c.Bound,.bool c.West,.bool c.Cast]
def Cfg.chk (c : Cfg) : Int :=
 if ([c.W,c.H].all (in1 64)) = false then 4
 else if ([c.Lanes].all (in1 8)) = false then 10
 else if (c.Cast && c.Lanes == 1) = true then 10
 else if ([c.Depth,c.Ring,c.Inbox].all (in1 64)) = false then 10
 else if ([c.Bound].all (in1 16)) = false then 10
 else 0
def Cfg.nodes (c : Cfg) : Int := if c.chk = 0 then c.W * c.H else 0
theorem run_Check (c : Cfg) (w : World) :
  Calls Tryz.prog 71 #[.agg c.cells] w fun e w' => e = .returned (.int .i64 c.chk)∧Mod (fun _ => False) w w' := by
 obtain ⟨W,H,Ln,D,R,I,B,we,ca⟩ := c
 simp only [Cfg.cells]
 have kb := Blk.made w #[.int .i64 W,.int .i64 H,.int .i64 Ln,.int .i64 D,.int .i64 R,.int .i64 I,.int .i64 B,.bool we,.bool ca] 23
 go_enter Tryz.func71,Tryz.ntmps71
 go_wp2_with fail
 refine (run_within 64 _ [W,H] _ (SlV.new' _ (w.heap.size + 1) _ _ _ (by simp) rfl rfl)).mono ?_
 rintro e w1 ⟨rfl,m1⟩
 have k1 := (kb.alloc (.cells #[.int .i64 W,.int .i64 H] 3)).later m1 (by simp)
 have mm1 := (((Mod.refl (fun _ => False) w).alloc (.cells #[.int .i64 W,.int .i64 H,.int .i64 Ln,.int .i64 D,.int .i64 R,.int .i64 I,.int .i64 B,.bool we,.bool ca] 23)).alloc (.cells #[.int .i64 W,.int .i64 H] 3)).trans m1 (by simp)
 clear kb m1
 cases h1 : [W,H].all (in1 64) with
 | false =>
  have H1 := Lib.hid h1
  clear h1
  go_wp2
  go_ret
  exact ⟨by simp only [Cfg.chk,H1.out,if_true]; rfl,mm1⟩
 | true =>
 have H1 := Lib.hid h1
 have c2 := k1.cell 2
 simp at c2
 clear h1
 go_wp2_with fail
 refine (run_within 8 _ [Ln] _ (SlV.new' _ _ _ _ _ rfl rfl rfl)).mono ?_
 rintro e w2 ⟨rfl,m2⟩
 have k2 := (k1.alloc (.cells #[.int .i64 Ln] 3)).later m2 (by simp)
 have mm2 := (mm1.alloc (.cells #[.int .i64 Ln] 3)).trans m2 (by simp)
 clear k1 mm1 m2 c2
 cases h2 : [Ln].all (in1 8) with
 | false =>
  have H2 := Lib.hid h2
  clear h2
  go_wp2
  go_ret
  exact ⟨by simp only [Cfg.chk,H1.out,H2.out,if_true]; rfl,mm2⟩
 | true =>
 have H2 := Lib.hid h2
 have c2 := k2.cell 2
 have c3 := k2.cell 3
 have c4 := k2.cell 4
 have c5 := k2.cell 5
 have c8 := k2.cell 8
 simp at c2 c3 c4 c5 c8
 clear h2
 cases hca : (ca && Ln == 1) with
 | true =>
  obtain ⟨rfl,hl⟩ : ca = true∧(Ln == 1) = true := by simpa using hca
  have H3 := Lib.hid hca
  clear hca
  go_wp2
  go_ret
  exact ⟨by simp only [Cfg.chk,H1.out,H2.out,H3.out,if_true]; rfl,mm2⟩
 | false =>
 have H3 := Lib.hid hca
 have hce : ca = false∨(ca = true∧(Ln == 1) = false) := by
  cases ca
  ·
   exact Or.inl rfl
  ·
   exact Or.inr ⟨rfl,by simpa using hca⟩
 clear hca
 rcases hce with rfl | ⟨rfl,hl⟩
 all_goals
  go_wp2_with fail
  refine (run_within 64 _ [D,R,I] _ (SlV.new' _ _ _ _ _ rfl rfl rfl)).mono ?_
  rintro e w3 ⟨rfl,m3⟩
  have k3 := (k2.alloc (.cells #[.int .i64 D,.int .i64 R,.int .i64 I] 3)).later m3 (by simp)
  have mm3 := (mm2.alloc (.cells #[.int .i64 D,.int .i64 R,.int .i64 I] 3)).trans m3 (by simp)
  have c6 := k3.cell 6
  simp at c6
  clear k2 mm2 m3 c2 c3 c4 c5 c8
  cases h4 : [D,R,I].all (in1 64) with
  | false =>
   have H4 := Lib.hid h4
   clear h4
   go_wp2
   go_ret
   exact ⟨by simp only [Cfg.chk,H1.out,H2.out,H3.out,H4.out,if_true]; rfl,mm3⟩
  | true =>
  have H4 := Lib.hid h4
  clear h4
  go_wp2_with fail
  refine (run_within 16 _ [B] _ (SlV.new' _ _ _ _ _ rfl rfl rfl)).mono ?_
  rintro e w4 ⟨rfl,m4⟩
  have mm4 := (mm3.alloc (.cells #[.int .i64 B] 3)).trans m4 (by simp)
  cases h5 : [B].all (in1 16) with
  | false =>
   have H5 := Lib.hid h5
   clear h5
   go_wp2
   go_ret
   exact ⟨by simp only [Cfg.chk,H1.out,H2.out,H3.out,H4.out,H5.out,if_true]; rfl,mm4⟩
  | true =>
   have H5 := Lib.hid h5
   clear h5
   go_wp2
   go_ret
   exact ⟨by simp only [Cfg.chk,H1.out,H2.out,H3.out,H4.out,H5.out]; rfl,mm4⟩
structure Cfg.Ok (c : Cfg) : Prop where
 W1 : 1 ≤ c.W
 W2 : c.W ≤ 64
 H1 : 1 ≤ c.H
 H2 : c.H ≤ 64
 L1 : 1 ≤ c.Lanes
 L2 : c.Lanes ≤ 8
 C : c.Cast = true→2 ≤ c.Lanes
 D1 : 1 ≤ c.Depth
 D2 : c.Depth ≤ 64
 R1 : 1 ≤ c.Ring
 R2 : c.Ring ≤ 64
 I1 : 1 ≤ c.Inbox
 I2 : c.Inbox ≤ 64
 B1 : 1 ≤ c.Bound
 B2 : c.Bound ≤ 16
theorem in1_iff (m n : Int) : in1 m n = true ↔ 1 ≤ n∧n ≤ m := by simp [in1]
theorem Cfg.ok_of (c : Cfg) (h : c.chk = 0) : c.Ok := by
 unfold Cfg.chk at h
 split at h
 ·
  omega
 rename_i h1
 split at h
 ·
  omega
 rename_i h2
 split at h
 ·
  omega
 rename_i h3
 split at h
 ·
  omega
 rename_i h4
 split at h
 ·
  omega
 rename_i h5
 simp only [Bool.not_eq_false,List.all_cons,List.all_nil,Bool.and_true,Bool.and_eq_true,in1_iff] at h1 h2 h4 h5
 have h3' : c.Cast = true→c.Lanes ≠ 1 := by
  intro hc he
  apply h3
  simp [hc,he]
 exact ⟨h1.1.1,h1.1.2,h1.2.1,h1.2.2,h2.1,h2.2,fun hc => by have := h3' hc; omega,h4.1.1,h4.1.2,h4.2.1.1,h4.2.1.2,h4.2.2.1,h4.2.2.2,h5.1,h5.2⟩
theorem Cfg.chk_of (c : Cfg) (h : c.Ok) : c.chk = 0 := by
 unfold Cfg.chk
 have a1 : [c.W,c.H].all (in1 64) = true := by simp [in1,h.W1,h.W2,h.H1,h.H2]
 have a2 : [c.Lanes].all (in1 8) = true := by simp [in1,h.L1,h.L2]
 have a3 : (c.Cast && c.Lanes == 1) = false := by
  cases hc : c.Cast with
  | false => rfl
  | true =>
   have := h.C hc
   simp; omega
 have a4 : [c.Depth,c.Ring,c.Inbox].all (in1 64) = true := by simp [in1,h.D1,h.D2,h.R1,h.R2,h.I1,h.I2]
 have a5 : [c.Bound].all (in1 16) = true := by simp [in1,h.B1,h.B2]
 rw [a1,a2,a3,a4,a5]
 rfl
theorem Cfg.chk_iff (c : Cfg) : c.chk = 0 ↔ c.Ok := ⟨c.ok_of,c.chk_of⟩
theorem mul_le_4096 {a b : Int} (a1 : 1 ≤ a) (a2 : a ≤ 64) (b1 : 1 ≤ b) (b2 : b ≤ 64) : 1 ≤ a * b∧a * b ≤ 4096 := by
 constructor
 ·
  have := Int.mul_le_mul a1 b1 (by omega) (by omega)
  simpa using this
 ·
  have := Int.mul_le_mul a2 b2 (by omega) (by omega)
  simpa using this
theorem Cfg.nodes_bd (c : Cfg) : 0 ≤ c.nodes∧c.nodes ≤ 4096 := by
 unfold Cfg.nodes
 split
 ·
  rename_i h
  have k := c.ok_of h
  have := mul_le_4096 k.W1 k.W2 k.H1 k.H2
  omega
 ·
  omega
theorem run_Nodes (c : Cfg) (w : World) :
  Calls Tryz.prog 72 #[.agg c.cells] w fun e w' => e = .returned (.int .i64 c.nodes)∧Mod (fun _ => False) w w' := by
 have kb := Blk.made w c.cells 23
 have m0 : Mod (fun _ => False) w (w.alloc (.cells c.cells 23)) := (Mod.refl _ _).alloc _
 simp only [Cfg.cells] at kb m0 ⊢
 go_enter Tryz.func72,Tryz.ntmps72
 go_wp2_with fail
 refine (run_Check c _).mono ?_
 rintro e w1 ⟨rfl,m1⟩
 have k1 := kb.later m1 (by simp)
 have mm := m0.trans m1 (by simp)
 clear kb m0 m1
 by_cases h : c.chk = 0
 ·
  have k := c.ok_of h
  have hb := mul_le_4096 k.W1 k.W2 k.H1 k.H2
  have hw : wrap64 (c.W * c.H) = c.W * c.H := by unfold wrap64; omega
  have hn : c.nodes = c.W * c.H := by unfold Cfg.nodes; rw [if_pos h]
  have HW := Lib.hid hw
  have HN := Lib.hid hn
  have c0 := k1.cell 0
  have c1 := k1.cell 1
  simp at c0 c1
  rw [h]
  clear h hw hn k hb
  go_wp2
  go_ret
  exact ⟨by rw [HN.out]; show Ending.returned (.int .i64 (wrap64 (c.W * c.H))) = _; rw [HW.out],mm⟩
 ·
  have hn : c.nodes = 0 := by unfold Cfg.nodes; rw [if_neg h]
  have h1 : (c.chk == 0) = false := by simpa using h
  have h2 : (c.chk != 0) = true := by simpa using h
  have HN := Lib.hid hn
  clear hn h
  go_wp2
  go_ret
  exact ⟨by rw [HN.out]; rfl,mm⟩
open Go.RowKit
def Cfg.is (c : Cfg) (n : Int) : Bool := decide (0 ≤ n) && decide (n < c.nodes)
theorem Cfg.is_iff (c : Cfg) (n : Int) : c.is n = true ↔ 0 ≤ n∧n < c.nodes := by simp [Cfg.is]
theorem Cfg.is_ok {c : Cfg} {n : Int} (h : c.is n = true) : c.Ok∧0 ≤ n∧n < c.W * c.H := by
 rw [Cfg.is_iff] at h
 unfold Cfg.nodes at h
 split at h
 ·
  rename_i hc
  exact ⟨c.ok_of hc,h.1,h.2⟩
 ·
  omega
theorem Cfg.nodes_ok {c : Cfg} (h : c.Ok) : c.nodes = c.W * c.H := by unfold Cfg.nodes; rw [if_pos (c.chk_of h)]
theorem run_Is (c : Cfg) (n : Int) (w : World) :
  Calls Tryz.prog 115 #[.agg c.cells,.int .i64 n] w fun e w' => e = .returned (.bool (c.is n))∧Mod (fun _ => False) w w' := by
 have kb := Blk.made w c.cells 23
 have m0 : Mod (fun _ => False) w (w.alloc (.cells c.cells 23)) := (Mod.refl _ _).alloc _
 simp only [Cfg.cells] at kb m0 ⊢
 by_cases h : 0 ≤ n
 ·
  have hv : c.is n = decide (n < c.nodes) := by simp [Cfg.is,h]
  have HV := Lib.hid hv
  clear hv
  go_enter Tryz.func115,Tryz.ntmps115
  go_wp2_with fail
  refine (run_Nodes c _).mono ?_
  rintro e w1 ⟨rfl,m1⟩
  go_wp2
  go_ret
  exact ⟨by rw [HV.out]; rfl,m0.trans m1 (by simp)⟩
 ·
  have hv : c.is n = false := by simp [Cfg.is,h]
  have HV := Lib.hid hv
  clear hv
  go_enter Tryz.func115,Tryz.ntmps115
  go_wp2
  go_ret
  exact ⟨by rw [HV.out]; rfl,m0⟩
def Cfg.px (c : Cfg) (n : Int) : Int := if c.is n then n % c.W else 0
def Cfg.py (c : Cfg) (n : Int) : Int := if c.is n then n / c.W else 0
def Cfg.pe (c : Cfg) (n : Int) : Int := if c.is n then 0 else 5
theorem run_Place (c : Cfg) (n : Int) (w : World) :
  Calls Tryz.prog 145 #[.agg c.cells,.int .i64 n] w fun e w' => e = .returned (.tuple #[.int .i64 (c.px n),.int .i64 (c.py n),.int .i64 (c.pe n)])∧Mod (fun _ => False) w w' := by
 have kb := Blk.made w c.cells 23
 have m0 : Mod (fun _ => False) w (w.alloc (.cells c.cells 23)) := (Mod.refl _ _).alloc _
 simp only [Cfg.cells] at kb m0 ⊢
 go_enter Tryz.func145,Tryz.ntmps145
 go_wp2_with fail
 refine (run_Is c n _).mono ?_
 rintro e w1 ⟨rfl,m1⟩
 have k1 := kb.later m1 (by simp)
 have mm := m0.trans m1 (by simp)
 clear kb m0 m1
 cases h : c.is n with
 | true =>
  obtain ⟨hok,h0,hlt⟩ := Cfg.is_ok h
  have hW1 := hok.W1
  have hW2 := hok.W2
  have hbd := mul_le_4096 hok.W1 hok.W2 hok.H1 hok.H2
  have h4 : n < 4096 := by omega
  have hfin : Value.tuple #[.int .i64 (n % c.W),.int .i64 (n / c.W),.int .i64 0] = .tuple #[.int .i64 (c.px n),.int .i64 (c.py n),.int .i64 (c.pe n)] := by simp [Cfg.px,Cfg.py,Cfg.pe,h]
  have HF := Lib.hid hfin
  have c0 := k1.cell 0
  simp at c0
  clear hfin h hok hbd hlt
  go_wp2
  go_quiet (fail)
  go_wp2
  go_ret3
  exact ⟨by rw [← HF.out]; rfl,mm.drewN _⟩
 | false =>
  have hfin : Value.tuple #[.int .i64 0,.int .i64 0,.int .i64 5] = .tuple #[.int .i64 (c.px n),.int .i64 (c.py n),.int .i64 (c.pe n)] := by simp [Cfg.px,Cfg.py,Cfg.pe,h]
  have HF := Lib.hid hfin
  clear hfin h
  go_wp2
  go_ret3
  exact ⟨by rw [← HF.out]; rfl,mm⟩
def Cfg.atB (c : Cfg) (x y : Int) : Bool := decide (c.chk = 0) && decide (0 ≤ x) && decide (0 ≤ y) && decide (x < c.W) && decide (y < c.H)
def Cfg.atV (c : Cfg) (x y : Int) : Int := if c.atB x y then y * c.W + x else 0
def Cfg.atE (c : Cfg) (x y : Int) : Int := if c.atB x y then 0 else 5
theorem run_At (c : Cfg) (x y : Int) (w : World) :
  Calls Tryz.prog 147 #[.agg c.cells,.int .i64 x,.int .i64 y] w fun e w' => e = .returned (.tuple #[.int .i64 (c.atV x y),.int .i64 (c.atE x y)])∧Mod (fun _ => False) w w' := by
 have kb := Blk.made w c.cells 23
 have m0 : Mod (fun _ => False) w (w.alloc (.cells c.cells 23)) := (Mod.refl _ _).alloc _
 simp only [Cfg.cells] at kb m0 ⊢
 go_enter Tryz.func147,Tryz.ntmps147
 go_wp2_with fail
 refine (run_Check c _).mono ?_
 rintro e w1 ⟨rfl,m1⟩
 have k1 := kb.later m1 (by simp)
 have mm := m0.trans m1 (by simp)
 have c0 := k1.cell 0
 have c1 := k1.cell 1
 simp at c0 c1
 clear kb m0 m1
 have hno : c.atB x y = false→Value.tuple #[.int .i64 0,.int .i64 5] = .tuple #[.int .i64 (c.atV x y),.int .i64 (c.atE x y)] := by intro h; simp [Cfg.atV,Cfg.atE,h]
 have HN := Lib.hid hno
 clear hno
 by_cases h : c.chk = 0
 ·
  have hok := c.ok_of h
  by_cases hx : 0 ≤ x∧0 ≤ y∧x < c.W∧y < c.H
  ·
   obtain ⟨hx0,hy0,hxW,hyH⟩ := hx
   have hW1 := hok.W1
   have hW2 := hok.W2
   have hH2 := hok.H2
   have hb : c.atB x y = true := by simp [Cfg.atB, *]
   have hm := Int.mul_le_mul (show y ≤ 63 by omega) hW2 (by omega) (by omega)
   have hm0 : 0 ≤ y * c.W := Int.mul_nonneg hy0 (by omega)
   have hw : wrap64 (y * c.W) = y * c.W := by unfold wrap64; omega
   have hw2 : wrap64 (wrap64 (y * c.W) + x) = y * c.W + x := by rw [hw]; unfold wrap64; omega
   have hfin : Value.tuple #[.int .i64 (wrap64 (wrap64 (y * c.W) + x)),.int .i64 0] = .tuple #[.int .i64 (c.atV x y),.int .i64 (c.atE x y)] := by rw [hw2]; simp [Cfg.atV,Cfg.atE,hb]
   have HF := Lib.hid hfin
   rw [h]
   clear h hok hb hm hm0 hw hw2 hfin HN
   go_wp2
   go_ret2
   exact ⟨by rw [← HF.out]; rfl,mm⟩
  ·
   have hb : c.atB x y = false := by
    simp only [Cfg.atB]
    rw [Bool.eq_false_iff]
    intro hh
    simp at hh
    exact hx ⟨hh.1.1.1.2,hh.1.1.2,hh.1.2,hh.2⟩
   have HB := Lib.hid hb
   rw [h]
   clear hb h hok
   by_cases h1 : x < 0
   ·
    go_wp2
    go_ret2
    exact ⟨by rw [← HN.out HB.out]; rfl,mm⟩
   by_cases h2 : y < 0
   ·
    go_wp2
    go_ret2
    exact ⟨by rw [← HN.out HB.out]; rfl,mm⟩
   by_cases h3 : x < c.W
   ·
    have h4 : ¬ y < c.H := fun hh => hx ⟨by omega,by omega,h3,hh⟩
    clear hx
    go_wp2
    go_ret2
    exact ⟨by rw [← HN.out HB.out]; rfl,mm⟩
   ·
    clear hx
    go_wp2
    go_ret2
    exact ⟨by rw [← HN.out HB.out]; rfl,mm⟩
 ·
  have hb : c.atB x y = false := by simp [Cfg.atB,h]
  have h1 : (c.chk == 0) = false := by simpa using h
  have h2 : (c.chk != 0) = true := by simpa using h
  have HB := Lib.hid hb
  clear hb h
  go_wp2
  go_ret2
  exact ⟨by rw [← HN.out HB.out]; rfl,mm⟩
open Go.RowKit
def dX (p : Int) : Int := if p = 1 then 1 else if p = 2 then -1 else 0
def dY (p : Int) : Int := if p = 3 then 1 else if p = 4 then -1 else 0
abbrev pt (x y : Int) : Value := .agg #[.int .i64 x,.int .i64 y]
theorem run_steps (w : World) :
  Calls Tryz.prog 146 #[] w fun e w' => e = .returned (.agg #[.int .i64 0,.int .i64 0,.int .i64 1,.int .i64 0,.int .i64 (-1),.int .i64 0,.int .i64 0,.int .i64 1,.int .i64 0,.int .i64 (-1)])∧Mod (fun _ => False) w w' := by
 go_enter Tryz.func146,Tryz.ntmps146
 go_wp2
 go_returns
 exact ⟨rfl,(Mod.refl _ _).alloc _⟩
def Cfg.besB (c : Cfg) (n p : Int) : Bool := c.is n && decide (0 ≤ p) && decide (p < 5) && c.atB (n % c.W + dX p) (n / c.W + dY p)
def Cfg.besV (c : Cfg) (n p : Int) : Int := if c.besB n p then (n / c.W + dY p) * c.W + (n % c.W + dX p) else 0
theorem cfg_cells {w : World} {b : Nat} {c : Cfg} {t : TypeId} (h : Blk w b c.cells t) :
  w.cell? ⟨b,0,none⟩ = some (.int .i64 c.W)∧w.cell? ⟨b,1,none⟩ = some (.int .i64 c.H)∧w.cell? ⟨b,2,none⟩ = some (.int .i64 c.Lanes)∧w.cell? ⟨b,3,none⟩ = some (.int .i64 c.Depth)∧w.cell? ⟨b,4,none⟩ = some (.int .i64 c.Ring) ∧
  w.cell? ⟨b,5,none⟩ = some (.int .i64 c.Inbox)∧w.cell? ⟨b,6,none⟩ = some (.int .i64 c.Bound)∧w.cell? ⟨b,7,none⟩ = some (.bool c.West)∧w.cell? ⟨b,8,none⟩ = some (.bool c.Cast) :=
 ⟨h.cell 0,h.cell 1,h.cell 2,h.cell 3,h.cell 4,h.cell 5,h.cell 6,h.cell 7,h.cell 8⟩
theorem Cfg.atE_eq (c : Cfg) (x y : Int) : (c.atE x y == 0) = c.atB x y := by
 unfold Cfg.atE
 cases c.atB x y <;> rfl
theorem run_Beside (c : Cfg) (n p : Int) (w : World) :
  Calls Tryz.prog 101 #[.agg c.cells,.int .i64 n,.int .i64 p] w fun e w' => e = .returned (.tuple #[.int .i64 (c.besV n p),.bool (c.besB n p)])∧Mod (fun _ => False) w w' := by
 have kb := Blk.made w c.cells 23
 have m0 : Mod (fun _ => False) w (w.alloc (.cells c.cells 23)) := (Mod.refl _ _).alloc _
 have hno : c.besB n p = false→Value.tuple #[.int .i64 0,.bool false] = .tuple #[.int .i64 (c.besV n p),.bool (c.besB n p)] := by intro h; simp [Cfg.besV,h]
 have HN := Lib.hid hno
 clear hno
 simp only [Cfg.cells] at kb m0 ⊢
 go_enter Tryz.func101,Tryz.ntmps101
 go_wp2_with fail
 refine (run_Place c n _).mono ?_
 rintro e w1 ⟨rfl,m1⟩
 have k1 := kb.later m1 (by simp)
 have mm := m0.trans m1 (by simp)
 clear kb m0 m1
 cases h : c.is n with
 | false =>
  have hb : c.besB n p = false := by simp [Cfg.besB,h]
  have e1 : c.px n = 0 := by simp [Cfg.px,h]
  have e2 : c.py n = 0 := by simp [Cfg.py,h]
  have e3 : c.pe n = 5 := by simp [Cfg.pe,h]
  rw [e1,e2,e3]
  have HB := Lib.hid hb
  clear hb h e1 e2 e3
  go_wp2
  go_ret2
  exact ⟨by rw [← HN.out HB.out]; rfl,mm⟩
 | true =>
 obtain ⟨hok,h0,hlt⟩ := Cfg.is_ok h
 have hW1 := hok.W1
 have hW2 := hok.W2
 have hbd := mul_le_4096 hok.W1 hok.W2 hok.H1 hok.H2
 have e1 : c.px n = n % c.W := by simp [Cfg.px,h]
 have e2 : c.py n = n / c.W := by simp [Cfg.py,h]
 have e3 : c.pe n = 0 := by simp [Cfg.pe,h]
 rw [e1,e2,e3]
 by_cases hp : 0 ≤ p∧p < 5
 ·
  obtain ⟨hp0,hp5⟩ := hp
  have hx0 : 0 ≤ n % c.W := Int.emod_nonneg _ (by omega)
  have hx1 : n % c.W < c.W := Int.emod_lt_of_pos _ (by omega)
  have hy0 : 0 ≤ n / c.W := Int.ediv_nonneg h0 (by omega)
  have hy1 : n / c.W ≤ n := Int.ediv_le_self _ h0
  have hfin : Value.tuple #[.int .i64 (c.atV (n % c.W + dX p) (n / c.W + dY p)),.bool (c.atE (n % c.W + dX p) (n / c.W + dY p) == 0)] = .tuple #[.int .i64 (c.besV n p),.bool (c.besB n p)] := by
   rw [Cfg.atE_eq]
   have hb : c.besB n p = c.atB (n % c.W + dX p) (n / c.W + dY p) := by simp [Cfg.besB,h,hp0,hp5]
   rw [hb]
   unfold Cfg.besV Cfg.atV
   rw [hb]
  have HF := Lib.hid hfin
  clear hfin h hok e1 e2 e3 HN
  generalize n % c.W = x at hx0 hx1 HF ⊢
  generalize n / c.W = y at hy0 hy1 HF ⊢
  have hn : n < 4096 := by omega
  clear hbd hlt
  have hpp : p = 0∨p = 1∨p = 2∨p = 3∨p = 4 := by omega
  have i0 : ∀ w,(Instr.index 206 (.agg #[.int .i64 0,.int .i64 0,.int .i64 1,.int .i64 0,.int .i64 (-1),.int .i64 0,.int .i64 0,.int .i64 1,.int .i64 0,.int .i64 (-1)]) (.int .i64 0)).run Tryz.prog w = .ok (.agg #[.int .i64 0,.int .i64 0]) w := fun _ => by kernel_rfl
  have i1 : ∀ w,(Instr.index 206 (.agg #[.int .i64 0,.int .i64 0,.int .i64 1,.int .i64 0,.int .i64 (-1),.int .i64 0,.int .i64 0,.int .i64 1,.int .i64 0,.int .i64 (-1)]) (.int .i64 1)).run Tryz.prog w = .ok (.agg #[.int .i64 1,.int .i64 0]) w := fun _ => by kernel_rfl
  have i2 : ∀ w,(Instr.index 206 (.agg #[.int .i64 0,.int .i64 0,.int .i64 1,.int .i64 0,.int .i64 (-1),.int .i64 0,.int .i64 0,.int .i64 1,.int .i64 0,.int .i64 (-1)]) (.int .i64 2)).run Tryz.prog w = .ok (.agg #[.int .i64 (-1),.int .i64 0]) w := fun _ => by kernel_rfl
  have i3 : ∀ w,(Instr.index 206 (.agg #[.int .i64 0,.int .i64 0,.int .i64 1,.int .i64 0,.int .i64 (-1),.int .i64 0,.int .i64 0,.int .i64 1,.int .i64 0,.int .i64 (-1)]) (.int .i64 3)).run Tryz.prog w = .ok (.agg #[.int .i64 0,.int .i64 1]) w := fun _ => by kernel_rfl
  have i4 : ∀ w,(Instr.index 206 (.agg #[.int .i64 0,.int .i64 0,.int .i64 1,.int .i64 0,.int .i64 (-1),.int .i64 0,.int .i64 0,.int .i64 1,.int .i64 0,.int .i64 (-1)]) (.int .i64 4)).run Tryz.prog w = .ok (.agg #[.int .i64 0,.int .i64 (-1)]) w := fun _ => by kernel_rfl
  rcases hpp with rfl | rfl | rfl | rfl | rfl
  all_goals
   go_wp2_with fail
   refine (run_steps _).mono ?_
   rintro e w2 ⟨rfl,m2⟩
   have k2 := k1.later m2 (by simp)
   have mm2 := mm.trans m2 (by simp)
   clear k1 m2 mm
   obtain ⟨c0,c1,c2,c3,c4,c5,c6,c7,c8⟩ := cfg_cells k2
   have lt2 := k2.lt
   simp only [dX,dY] at HF
   simp at HF
   go_wp2_with fail
   refine (run_At c _ _ _).mono ?_
   rintro e w3 ⟨rfl,m3⟩
   have mm3 := (mm2.alloc _).trans m3 (by simp)
   go_wp2
   go_ret2
   exact ⟨by rw [← HF.out.1,← HF.out.2]; rfl,mm3⟩
 ·
  have hb : c.besB n p = false := by
   rw [Bool.eq_false_iff]
   intro hh
   simp [Cfg.besB] at hh
   exact hp ⟨hh.1.1.2,hh.1.2⟩
  have HB := Lib.hid hb
  clear hb e1 e2 e3 h hok hbd hlt
  by_cases h1 : p < 0
  ·
   clear hp
   go_wp2
   go_ret2
   exact ⟨by rw [← HN.out HB.out]; rfl,mm⟩
  ·
   have h2 : 5 ≤ p := by omega
   clear hp
   go_wp2
   go_ret2
   exact ⟨by rw [← HN.out HB.out]; rfl,mm⟩
open Go.RowKit
def Cfg.ports (c : Cfg) (n : Int) : List Int := [1,2,3,4].filter fun p => c.besB n p
theorem info_int' : (Tryz.prog.info? 3).map (fun i => (i.zero,i.size,i.bytes)) = some (some (.int .i64 0),1,8) := by kernel_rfl
def Cfg.portsTo (c : Cfg) (n : Int) (k : Nat) : List Int := ((List.range k).map fun (j : Nat) => ((j : Int) + 1)).filter fun p => c.besB n p
theorem Cfg.portsTo_step (c : Cfg) (n : Int) (k : Nat) : c.portsTo n (k + 1) = c.portsTo n k ++ if c.besB n ((k : Int) + 1) then [(k : Int) + 1] else [] := by
 unfold Cfg.portsTo
 rw [List.range_succ,List.map_append,List.filter_append]
 congr 1
 simp only [List.map_cons,List.map_nil,List.filter_cons,List.filter_nil]
theorem Cfg.portsTo_all (c : Cfg) (n : Int) : c.portsTo n 4 = c.ports n := rfl
theorem Cfg.portsTo_le (c : Cfg) (n : Int) (k : Nat) : (c.portsTo n k).length ≤ k := by
 unfold Cfg.portsTo
 exact Nat.le_trans (List.length_filter_le _ _) (by simp)
theorem run_PortsF (c : Cfg) (n : Int) (w : World) :
  Calls Tryz.prog 120 #[.agg c.cells,.int .i64 n] w fun e w' => ∃ v,e = .returned v∧Mod (fun _ => False) w w'∧SlV w' v ((c.ports n).map (Value.int .i64))∧∀ q,v.ownBlock = some q→w.heap.size ≤ q := by
 have kb := Blk.made w c.cells 23
 have m0 : Mod (fun _ => False) w (w.alloc (.cells c.cells 23)) := (Mod.refl _ _).alloc _
 simp only [Cfg.cells] at kb m0 ⊢
 go_enter Tryz.func120,Tryz.ntmps120
 go_wp2
 generalize w.alloc (.cells #[.int .i64 c.W,.int .i64 c.H,.int .i64 c.Lanes,.int .i64 c.Depth,.int .i64 c.Ring,.int .i64 c.Inbox,.int .i64 c.Bound,.bool c.West,.bool c.Cast] 23) = w0 at kb m0 ⊢
 go_loopw [5,6] (fun o i wr => ∃ k : Nat,k ≤ 4∧i = .int .i64 ((k : Int) + 1)∧wr.ownsRow w0.heap.size 3 1 o (c.portsTo n k).length ((c.portsTo n k).map (Value.int .i64))∧Mod (fun _ => False) w0 wr) (fun _ i _ => 5 - (intOf i).toNat)
 case atStart => exact ⟨0,by omega,rfl,World.ownsRow_nil _ _ _ _,Mod.refl _ _⟩
 case round =>
  obtain ⟨k,hk,rfl,hown,hmod⟩ := hrel
  have hsz := hmod.size
  have hle := c.portsTo_le n k
  by_cases hlt : k < 4
  ·
   have k1 := kb.later hmod (by simp)
   obtain ⟨c0,c1,c2,c3,c4,c5,c6,c7,c8⟩ := cfg_cells k1
   have hst := Lib.hid (c.portsTo_step n k)
   go_wp2_with fail
   refine (run_Beside c n _ _).mono ?_
   rintro e w1 ⟨rfl,m1⟩
   have hown1 := hown.kept (row := none) ⟨m1.os,m1.tape,m1.output,m1.size,fun q hq _ => m1.block q hq (by simp)⟩ (by cases hv : Value.ownBlock _ <;> simp)
   have hm1 := hmod.trans m1 (by simp)
   have hsz1 := hm1.size
   clear c0 c1 c2 c3 c4 c5 c6 c7 c8 hown k1 m1 hmod
   cases hb : c.besB n ((k : Int) + 1) with
   | true =>
    have HB := Lib.hid hb
    clear hb
    have hlow := fun i (hi : i < w0.heap.size) e => Nat.not_le_of_lt hi (hown1.lt i e).1
    go_wp2_with (at_builtin; refine wpList_appendE rfl _ _ 44 rfl w0.heap.size 3 (.int .i64 0) 1 8 Tryz.underlying44 info_int' rfl (by decide) _ _ _ rfl hown1 #[_] rfl rfl (by simp [Value.oneCell']) (by unfold maxLen; omega) (by omega) (by omega) ?_; intro g cap wz hown2 hm2 hat2)
    have hm3 := hm1.trans' (S := fun _ => False) hm2 (fun _ _ h => h) (fun i hi hs => hlow i hi hs)
    go_wp2
    go_roundw
    case rel => exact ⟨k + 1,by omega,by go_num,by rw [hst.out,HB.out]; simpa using hown2,hm3⟩
    case measure => simp [intOf]; omega
   | false =>
    have HB := Lib.hid hb
    clear hb
    go_wp2
    go_roundw
    case rel => exact ⟨k + 1,by omega,by go_num,by rw [hst.out,HB.out]; simpa using hown1,hm1⟩
    case measure => simp [intOf]; omega
  ·
   have hk4 : k = 4 := by omega
   subst hk4
   rw [Cfg.portsTo_all] at hown
   have hs := Lib.hid (SlV.own hown)
   have hfr := Lib.hid (fun q e => (hown.lt q e).1)
   have hm0s := m0.size
   clear hown
   go_wp2
   go_ret
   exact ⟨_,rfl,m0.trans hmod (by simp),hs.out,fun q e => by have := hfr.out q e; omega⟩
theorem run_Ports (c : Cfg) (n : Int) (w : World) :
  Calls Tryz.prog 120 #[.agg c.cells,.int .i64 n] w fun e w' => ∃ v,e = .returned v∧Mod (fun _ => False) w w'∧SlV w' v ((c.ports n).map (Value.int .i64)) := by
 exact (run_PortsF c n w).mono fun e w' ⟨v,h1,h2,h3,_⟩ => ⟨v,h1,h2,h3⟩
open Go.RowKit
def Cfg.far (c : Cfg) (a b : Int) : Int :=
 if c.is a && c.is b then max (a % c.W - b % c.W) (b % c.W - a % c.W) + max (a / c.W - b / c.W) (b / c.W - a / c.W) else -1
theorem Cfg.p_yes {c : Cfg} {n : Int} (h : c.is n = true) : c.px n = n % c.W∧c.py n = n / c.W∧c.pe n = 0 := by simp [Cfg.px,Cfg.py,Cfg.pe,h]
theorem Cfg.p_no {c : Cfg} {n : Int} (h : c.is n = false) : c.px n = 0∧c.py n = 0∧c.pe n = 5 := by simp [Cfg.px,Cfg.py,Cfg.pe,h]
theorem Cfg.p_bd {c : Cfg} {n : Int} (h : c.is n = true) : 0 ≤ n % c.W∧n % c.W < c.W∧0 ≤ n / c.W∧n / c.W < c.H∧c.W ≤ 64∧c.H ≤ 64∧1 ≤ c.W := by
 obtain ⟨hok,h0,hlt⟩ := Cfg.is_ok h
 have hW := hok.W1
 refine ⟨Int.emod_nonneg _ (by omega),Int.emod_lt_of_pos _ (by omega),Int.ediv_nonneg h0 (by omega),?_,hok.W2,hok.H2,hW⟩
 exact Int.ediv_lt_of_lt_mul (by omega) (by rw [Int.mul_comm]; exact hlt)
def turnX (W x y : Int) : Int := if y % 2 = 1 then W - 1 - x else x
theorem run_turned (c : Cfg) (x y : Int) (w : World) (hx0 : 0 ≤ x) (hx1 : x < c.W) (hW : c.W ≤ 64) (hy0 : 0 ≤ y) (hy1 : y ≤ 5000) :
  Calls Tryz.prog 218 #[.agg c.cells,.int .i64 x,.int .i64 y] w fun e w' => e = .returned (.int .i64 (turnX c.W x y))∧Mod (fun _ => False) w w' := by
 have kb := Blk.made w c.cells 23
 have m0 : Mod (fun _ => False) w (w.alloc (.cells c.cells 23)) := (Mod.refl _ _).alloc _
 simp only [Cfg.cells] at kb m0 ⊢
 by_cases h : y % 2 = 1
 ·
  have hv : turnX c.W x y = c.W - 1 - x := by unfold turnX; rw [if_pos h]
  have HV := Lib.hid hv
  have ht : (y % 2 == 1) = true := by simp [h]
  clear hv h
  go_enter Tryz.func218,Tryz.ntmps218
  go_wp2
  go_ret
  exact ⟨by rw [HV.out]; rfl,m0⟩
 ·
  have hv : turnX c.W x y = x := by unfold turnX; rw [if_neg h]
  have HV := Lib.hid hv
  have ht : (y % 2 == 1) = false := by simp [h]
  clear hv h
  go_enter Tryz.func218,Tryz.ntmps218
  go_wp2
  go_ret
  exact ⟨by rw [HV.out]; rfl,m0⟩
def Cfg.lab (c : Cfg) (n : Int) : Int := if c.is n then n / c.W * c.W + turnX c.W (n % c.W) (n / c.W) else 0
theorem turnX_bd {W x y : Int} (h0 : 0 ≤ x) (h1 : x < W) : 0 ≤ turnX W x y∧turnX W x y < W := by
 unfold turnX
 split <;> omega
theorem Cfg.lab_is {c : Cfg} {n : Int} (h : c.is n = true) : c.is (c.lab n) = true∧c.lab n % c.W = turnX c.W (n % c.W) (n / c.W)∧c.lab n / c.W = n / c.W := by
 obtain ⟨hok,h0,hlt⟩ := Cfg.is_ok h
 obtain ⟨x0,x1,y0,y1,b1,b2,b3⟩ := Cfg.p_bd h
 obtain ⟨t0,t1⟩ := turnX_bd (y := n / c.W) x0 x1
 have hl : c.lab n = n / c.W * c.W + turnX c.W (n % c.W) (n / c.W) := by unfold Cfg.lab; rw [if_pos h]
 rw [hl]
 generalize turnX c.W (n % c.W) (n / c.W) = t at *
 generalize n / c.W = y at *
 have hy : y * c.W ≤ (c.H - 1) * c.W := Int.mul_le_mul_of_nonneg_right (by omega) (by omega)
 have hyy : (c.H - 1) * c.W = c.W * c.H - c.W := by rw [Int.sub_mul,Int.one_mul,Int.mul_comm]
 have hy0 : 0 ≤ y * c.W := Int.mul_nonneg y0 (by omega)
 refine ⟨(Cfg.is_iff _ _).2 ⟨by omega,by rw [Cfg.nodes_ok hok]; omega⟩,?_,?_⟩
 ·
  rw [Int.add_comm,Int.add_mul_emod_self_right,Int.emod_eq_of_lt t0 t1]
 ·
  rw [Int.add_comm,Int.add_mul_ediv_right _ _ (by omega),Int.ediv_eq_zero_of_lt t0 t1,Int.zero_add]
theorem Cfg.lab_bd {c : Cfg} (n : Int) : 0 ≤ c.lab n∧c.lab n < 4096 := by
 cases h : c.is n with
 | true =>
  obtain ⟨h1,-,-⟩ := Cfg.lab_is h
  rw [Cfg.is_iff] at h1
  have := c.nodes_bd
  omega
 | false =>
  unfold Cfg.lab
  rw [h]
  simp
theorem run_Label (c : Cfg) (n : Int) (w : World) :
  Calls Tryz.prog 201 #[.agg c.cells,.int .i64 n] w fun e w' => e = .returned (.tuple #[.int .i64 (c.lab n),.int .i64 (c.pe n)])∧Mod (fun _ => False) w w' := by
 have kb := Blk.made w c.cells 23
 have m0 : Mod (fun _ => False) w (w.alloc (.cells c.cells 23)) := (Mod.refl _ _).alloc _
 simp only [Cfg.cells] at kb m0 ⊢
 go_enter Tryz.func201,Tryz.ntmps201
 go_wp2_with fail
 refine (run_Place c n _).mono ?_
 rintro e w1 ⟨rfl,m1⟩
 have k1 := kb.later m1 (by simp)
 have mm1 := m0.trans m1 (by simp)
 obtain ⟨c0,c1,c2,c3,c4,c5,c6,c7,c8⟩ := cfg_cells k1
 clear kb m0 m1
 cases h : c.is n with
 | false =>
  obtain ⟨e1,e2,e3⟩ := Cfg.p_no h
  have hl : c.lab n = 0 := by unfold Cfg.lab; rw [h]; rfl
  have hfin : Value.tuple #[.int .i64 0,.int .i64 5] = .tuple #[.int .i64 (c.lab n),.int .i64 (c.pe n)] := by rw [hl,e3]
  have HF := Lib.hid hfin
  rw [e1,e2,e3]
  clear h e1 e2 e3 hl hfin
  go_wp2
  go_ret2
  exact ⟨by rw [← HF.out]; rfl,mm1⟩
 | true =>
  obtain ⟨e1,e2,e3⟩ := Cfg.p_yes h
  obtain ⟨x0,x1,y0,y1,b1,b2,b3⟩ := Cfg.p_bd h
  have hl : c.lab n = n / c.W * c.W + turnX c.W (n % c.W) (n / c.W) := by unfold Cfg.lab; rw [if_pos h]
  have hbd := Cfg.lab_bd (c := c) n
  rw [hl] at hbd
  obtain ⟨t0,t1⟩ := turnX_bd (y := n / c.W) x0 x1
  have hw : IntKind.i64.wrap (n / c.W * c.W) = n / c.W * c.W := IntWalk.i64_in _ (by omega)
  have hw2 : IntKind.i64.wrap (n / c.W * c.W + turnX c.W (n % c.W) (n / c.W)) = n / c.W * c.W + turnX c.W (n % c.W) (n / c.W) := IntWalk.i64_in _ (by omega)
  have hfin : Value.tuple #[.int .i64 (n / c.W * c.W + turnX c.W (n % c.W) (n / c.W)),.int .i64 0] = .tuple #[.int .i64 (c.lab n),.int .i64 (c.pe n)] := by rw [hl,e3]
  have HF := Lib.hid hfin
  rw [e1,e2,e3]
  clear h e1 e2 e3 hl hfin hbd
  generalize n % c.W = x at *
  generalize n / c.W = y at *
  go_wp2_with fail
  go_region_held3 (fun w' => w'.cell? ⟨w.heap.size,0,none⟩ = some (.int .i64 c.W)∧w'.cell? ⟨w.heap.size,1,none⟩ = some (.int .i64 c.H)∧w'.cell? ⟨w.heap.size,2,none⟩ = some (.int .i64 c.Lanes)∧w'.cell? ⟨w.heap.size,3,none⟩ = some (.int .i64 c.Depth)∧w'.cell? ⟨w.heap.size,4,none⟩ = some (.int .i64 c.Ring)∧w'.cell? ⟨w.heap.size,5,none⟩ = some (.int .i64 c.Inbox)∧w'.cell? ⟨w.heap.size,6,none⟩ = some (.int .i64 c.Bound)∧w'.cell? ⟨w.heap.size,7,none⟩ = some (.bool c.West)∧w'.cell? ⟨w.heap.size,8,none⟩ = some (.bool c.Cast))
   (first
    | go_keep
    | exact cfg_cells (k1.drew.later m2 (by simp)))
   ((go_at_call 218; refine (run_turned c x y _ x0 x1 b1 y0 (by omega)).mono ?_; rintro e w2 ⟨rfl,m2⟩))
  have mm2 := mm1.drew.trans m2 (by simp)
  generalize turnX c.W x y = t at *
  go_wp2
  go_ret2
  exact ⟨by rw [← HF.out]; rfl,mm2⟩
theorem run_label (c : Cfg) (n : Int) (w : World) :
  Calls Tryz.prog 170 #[.agg c.cells,.int .i64 n] w fun e w' => e = .returned (.int .i64 (c.lab n))∧Mod (fun _ => False) w w' := by
 have m0 : Mod (fun _ => False) w (w.alloc (.cells c.cells 23)) := (Mod.refl _ _).alloc _
 simp only [Cfg.cells] at m0 ⊢
 go_enter Tryz.func170,Tryz.ntmps170
 go_wp2_with fail
 refine (run_Label c n _).mono ?_
 rintro e w1 ⟨rfl,m1⟩
 go_wp2
 go_ret
 exact ⟨rfl,m0.trans m1 (by simp)⟩
open Go.RowKit
def nearer (start goal best l : Int) : Bool := (decide (best < l) && decide (l ≤ goal) && decide (start < goal)) || (decide (l < best) && decide (goal ≤ l) && decide (goal < start))
def updS (c : Cfg) (n start goal : Int) (s : Int × Int) (p : Int) : Int × Int :=
 if nearer start goal s.1 (c.lab (c.besV n p)) then (c.lab (c.besV n p),p) else s
def Cfg.stepS (c : Cfg) (n tt : Int) (l : List Int) : Int × Int := l.foldl (updS c n (c.lab n) (c.lab tt)) (c.lab n,0)
def Cfg.stepV (c : Cfg) (n tt : Int) : Int := if c.is n && c.is tt then (c.stepS n tt (c.ports n)).2 else 0
theorem Cfg.stepS_take (c : Cfg) (n tt : Int) (l : List Int) (k : Nat) (h : k < l.length) : c.stepS n tt (l.take (k + 1)) = updS c n (c.lab n) (c.lab tt) (c.stepS n tt (l.take k)) l[k] := by
 unfold Cfg.stepS
 rw [List.take_succ_eq_append_getElem h,List.foldl_append]
 rfl
theorem foldl_bd (c : Cfg) (n a g : Int) (l : List Int) : ∀ s : Int × Int,(0 ≤ s.1∧s.1 < 4096)→0 ≤ (l.foldl (updS c n a g) s).1∧(l.foldl (updS c n a g) s).1 < 4096 := by
 induction l with
 | nil => intro s h; exact h
 | cons p ps ih =>
  intro s h
  rw [List.foldl_cons]
  refine ih _ ?_
  unfold updS
  split
  ·
   exact Cfg.lab_bd _
  ·
   exact h
theorem Cfg.stepS_bd (c : Cfg) (n tt : Int) (l : List Int) : 0 ≤ (c.stepS n tt l).1∧(c.stepS n tt l).1 < 4096 := foldl_bd c n _ _ l _ (Cfg.lab_bd _)
theorem run_Step (c : Cfg) (n tt : Int) (w : World) :
  Calls Tryz.prog 136 #[.agg c.cells,.int .i64 n,.int .i64 tt] w fun e w' => e = .returned (.tuple #[.int .i64 (c.stepV n tt),.bool (c.is n && c.is tt)])∧Mod (fun _ => False) w w' := by
 have kb := Blk.made w c.cells 23
 have m0 : Mod (fun _ => False) w (w.alloc (.cells c.cells 23)) := (Mod.refl _ _).alloc _
 simp only [Cfg.cells] at kb m0 ⊢
 have hno : (c.is n && c.is tt) = false→Value.tuple #[.int .i64 0,.bool false] = .tuple #[.int .i64 (c.stepV n tt),.bool (c.is n && c.is tt)] := by
  intro h
  simp [Cfg.stepV,h]
 have HN := Lib.hid hno
 clear hno
 go_enter Tryz.func136,Tryz.ntmps136
 go_wp2_with fail
 refine (run_Is c n _).mono ?_
 rintro e w1 ⟨rfl,m1⟩
 have k1 := kb.later m1 (by simp)
 have mm1 := m0.trans m1 (by simp)
 obtain ⟨c0,c1,c2,c3,c4,c5,c6,c7,c8⟩ := cfg_cells k1
 have l1 := k1.lt
 clear kb m0 m1
 cases hn : c.is n with
 | false =>
  have hf : (c.is n && c.is tt) = false := by simp [hn]
  have HF := Lib.hid hf
  clear hf hn
  go_wp2
  go_ret2
  exact ⟨by rw [← HN.out HF.out]; rfl,mm1⟩
 | true =>
 go_wp2_with fail
 refine (run_Is c tt _).mono ?_
 rintro e w2 ⟨rfl,m2⟩
 have k2 := k1.later m2 (by simp)
 have mm2 := mm1.trans m2 (by simp)
 clear k1 mm1 m2 c0 c1 c2 c3 c4 c5 c6 c7 c8 l1
 obtain ⟨c0,c1,c2,c3,c4,c5,c6,c7,c8⟩ := cfg_cells k2
 have l2 := k2.lt
 cases ht : c.is tt with
 | false =>
  have hf : (c.is n && c.is tt) = false := by simp [ht]
  have HF := Lib.hid hf
  clear hf hn ht
  go_wp2
  go_ret2
  exact ⟨by rw [← HN.out HF.out]; rfl,mm2⟩
 | true =>
 have HY := Lib.hid hn
 have HT := Lib.hid ht
 clear hn ht
 go_upto_region 3 with fail
 go_cut [8,9] (fun a b w' => a = .int .i64 (c.lab n)∧b = .int .i64 (c.lab tt)∧Mod (fun _ => False) w2 w')
 case first =>
  go_region_held3 (fun w' => w'.cell? ⟨w.heap.size,0,none⟩ = some (.int .i64 c.W)∧w'.cell? ⟨w.heap.size,1,none⟩ = some (.int .i64 c.H)∧w'.cell? ⟨w.heap.size,2,none⟩ = some (.int .i64 c.Lanes)∧w'.cell? ⟨w.heap.size,3,none⟩ = some (.int .i64 c.Depth)∧w'.cell? ⟨w.heap.size,4,none⟩ = some (.int .i64 c.Ring)∧w'.cell? ⟨w.heap.size,5,none⟩ = some (.int .i64 c.Inbox)∧w'.cell? ⟨w.heap.size,6,none⟩ = some (.int .i64 c.Bound)∧w'.cell? ⟨w.heap.size,7,none⟩ = some (.bool c.West)∧w'.cell? ⟨w.heap.size,8,none⟩ = some (.bool c.Cast))
   (first
    | go_keep
    | exact cfg_cells (k2.drew.later m3 (by simp))
    | exact cfg_cells (k2.drew.later m4 (by simp))
    | exact cfg_cells ((k2.drew.later m3 (by simp)).later m4 (by simp))
    | exact cfg_cells ((k2.drew.later m4 (by simp)).later m3 (by simp)))
   (first
    | (go_at_call_of 170 n; refine (run_label c n _).mono ?_; rintro e w3 ⟨rfl,m3⟩)
    | (go_at_call_of 170 tt; refine (run_label c tt _).mono ?_; rintro e w4 ⟨rfl,m4⟩))
  all_goals go_wp2_with fail
  all_goals go_meet
  all_goals first
   | exact ⟨rfl,rfl,((Mod.refl _ w2).drew).trans (m3.trans m4 (by simp)) (by simp)⟩
   | exact ⟨rfl,rfl,((Mod.refl _ w2).drew).trans (m4.trans m3 (by simp)) (by simp)⟩
 case rest =>
  obtain ⟨rfl,rfl,m5⟩ := hcut
  have k5 := k2.later m5 (by simp)
  have mm5 := mm2.trans m5 (by simp)
  clear k2 mm2 m5 c0 c1 c2 c3 c4 c5 c6 c7 c8 l2
  obtain ⟨c0,c1,c2,c3,c4,c5,c6,c7,c8⟩ := cfg_cells k5
  go_wp2_with fail
  refine (run_Ports c n _).mono ?_
  rintro e w6 ⟨v,rfl,m6,hs⟩
  have k6 := k5.later m6 (by simp)
  have mm6 := mm5.trans m6 (by simp)
  clear k5 mm5 m6 c0 c1 c2 c3 c4 c5 c6 c7 c8
  obtain ⟨a,len,cap,rfl,hlen,hcap,hmax,-⟩ := id hs
  rw [List.length_map] at hlen
  have HS := Lib.hid hs
  have HL := Lib.hid hlen
  unfold maxLen at hmax
  have hbl := Cfg.lab_bd (c := c) n
  have hbt := Cfg.lab_bd (c := c) tt
  clear hs hlen
  go_wp2
  go_loopw [10,11,39] (fun b q i wr => ∃ k : Nat,k ≤ len∧i = .int .i64 k∧b = .int .i64 (c.stepS n tt ((c.ports n).take k)).1∧q = .int .i64 (c.stepS n tt ((c.ports n).take k)).2∧Mod (fun _ => False) w6 wr) (fun _ _ i _ => len - (intOf i).toNat)
  case atStart => exact ⟨0,by omega,rfl,rfl,rfl,Mod.refl _ _⟩
  case round =>
   obtain ⟨k,hk,rfl,rfl,rfl,hmod⟩ := hrel
   by_cases hlt : k < len
   ·
    have hkl : k < (c.ports n).length := by have := HL.out; omega
    obtain ⟨B,off,rfl,hB,hcell⟩ := HS.out.at k hlt
    have hv : ((c.ports n).map (Value.int .i64)).getD k undef = .int .i64 (c.ports n)[k] := by simp [List.getD_eq_getElem?_getD,hkl]
    rw [hv] at hcell
    have hcell := (hmod.cell (p := ⟨B,off + k,none⟩) hB (by simp)).trans hcell
    have hst := Lib.hid (c.stepS_take n tt (c.ports n) k hkl)
    have k7 := k6.later hmod (by simp)
    obtain ⟨c0,c1,c2,c3,c4,c5,c6,c7,c8⟩ := cfg_cells k7
    generalize (c.ports n)[k] = p at hcell hst
    generalize hsk : c.stepS n tt ((c.ports n).take k) = s at hst ⊢
    have hsb : 0 ≤ s.1∧s.1 < 4096 := by
     rw [← hsk]
     exact Cfg.stepS_bd c n tt _
    clear hsk hv
    go_wp2_with fail
    refine (run_Beside c n p _).mono ?_
    rintro e w8 ⟨rfl,m8⟩
    have k8 := k7.later m8 (by simp)
    have mm8 := hmod.trans m8 (by simp)
    clear k7 m8 hmod hcell c0 c1 c2 c3 c4 c5 c6 c7 c8
    obtain ⟨c0,c1,c2,c3,c4,c5,c6,c7,c8⟩ := cfg_cells k8
    go_wp2_with fail
    refine (run_label c _ _).mono ?_
    rintro e w9 ⟨rfl,m9⟩
    have mm9 := mm8.trans m9 (by simp)
    have hbn := Cfg.lab_bd (c := c) (c.besV n p)
    clear k8 m9 mm8 c0 c1 c2 c3 c4 c5 c6 c7 c8
    cases hup : nearer (c.lab n) (c.lab tt) s.1 (c.lab (c.besV n p)) with
    | true =>
     have hs' : updS c n (c.lab n) (c.lab tt) s p = (c.lab (c.besV n p),p) := by unfold updS; rw [if_pos hup]
     have HS' := Lib.hid hs'
     have hp : (s.1 < c.lab (c.besV n p)∧c.lab (c.besV n p) ≤ c.lab tt∧c.lab n < c.lab tt)∨(c.lab (c.besV n p) < s.1∧c.lab tt ≤ c.lab (c.besV n p)∧c.lab tt < c.lab n) := by
      simpa [nearer,and_assoc] using hup
     clear hup hs'
     rcases hp with ⟨h1,h2,h3⟩ | ⟨h1,h2,h3⟩
     all_goals
      go_wp2
      go_roundw
      case rel => exact ⟨k + 1,by omega,by go_num,by rw [hst.out,HS'.out],by rw [hst.out,HS'.out],mm9⟩
      case measure => simp [intOf]; omega
    | false =>
     have hs' : updS c n (c.lab n) (c.lab tt) s p = s := by unfold updS; rw [if_neg (by simp [hup])]
     have HS' := Lib.hid hs'
     have hp : ¬ ((s.1 < c.lab (c.besV n p)∧c.lab (c.besV n p) ≤ c.lab tt∧c.lab n < c.lab tt)∨(c.lab (c.besV n p) < s.1∧c.lab tt ≤ c.lab (c.besV n p)∧c.lab tt < c.lab n)) := by
      intro hh
      have : nearer (c.lab n) (c.lab tt) s.1 (c.lab (c.besV n p)) = true := by simpa [nearer,and_assoc] using hh
      rw [hup] at this
      simp at this
     clear hup hs'
     go_wp2
     all_goals
      go_roundw
      case rel => exact ⟨k + 1,by omega,by go_num,by rw [hst.out,HS'.out],by rw [hst.out,HS'.out],mm9⟩
      case measure => simp [intOf]; omega
   ·
    have hkl : k = (c.ports n).length := by have := HL.out; omega
    have htk : (c.ports n).take k = c.ports n := by rw [hkl,List.take_length]
    have hfin : Value.tuple #[.int .i64 (c.stepS n tt ((c.ports n).take k)).2,.bool true] = .tuple #[.int .i64 (c.stepV n tt),.bool (c.is n && c.is tt)] := by
     rw [htk]
     simp [Cfg.stepV,HY.out,HT.out]
    have HF := Lib.hid hfin
    clear hfin htk hkl
    go_wp2
    go_ret2
    exact ⟨by rw [← HF.out]; rfl,mm6.trans hmod (by simp)⟩
structure Flit where
 kind : Int
 src : Int
 dst : Int
 seq : Int
 len : Int
 more : Bool
 cast : Bool
 data : ByteArray
def Flit.none : Flit := ⟨0,0,0,0,0,false,false,⟨#[]⟩⟩
def Flit.bare (f : Flit) : Bool := decide (f.src = 0) && decide (f.dst = 0) && decide (f.seq = 0) && decide (f.len = 0) && !f.more && !f.cast
def nodeB (n : Int) : Bool := decide (0 ≤ n) && decide (n < 4096)
def Flit.right (f : Flit) : Bool :=
 if f.kind = 1 then decide (f.data.size = 0) && nodeB f.src && nodeB f.dst && decide (0 ≤ f.seq) && decide (f.seq < 65536) && decide (0 ≤ f.len) && decide (f.len ≤ 64)
 else if f.kind = 2 then f.bare && decide (f.data.size = 6)
 else f.bare && decide (f.kind = 3) && decide (f.data.size ≤ 6)
def chkN (w : Nat) : Nat := [0,8,16,24,32,40,48].foldl (fun n at' => (n * 31 + w / 2 ^ at' % 256 + 7) % 256) 0
def sealN (w : Nat) : Nat := w % 2 ^ 56 + chkN w * 2 ^ 56
def rightN (w : Nat) : Bool := decide (w / 2 ^ 56 = chkN w)
def b01 (b : Bool) : Nat := if b then 1 else 0
def dataN : List UInt8→Nat
 | [] => 0
 | b :: l => b.toNat + 256 * dataN l
def packN (f : Flit) : Nat :=
 if f.kind = 1 then 1 + 4 * (f.src.toNat + 4096 * (f.dst.toNat + 4096 * (f.seq.toNat + 65536 * (f.len.toNat + 128 * (b01 f.more + 2 * b01 f.cast)))))
 else f.kind.toNat + 4 * (f.data.size + 8 * dataN f.data.data.toList)
def wr (f : Flit) : Nat := sealN (packN f)
def bytesN : Nat→Nat→List UInt8
 | 0,_ => []
 | k + 1,n => UInt8.ofNat (n % 256) :: bytesN k (n / 256)
def decN (w : Nat) : Flit :=
 if w % 4 = 1 then ⟨1,((w / 2 ^ 2 % 4096 : Nat) : Int),((w / 2 ^ 14 % 4096 : Nat) : Int),((w / 2 ^ 26 % 65536 : Nat) : Int),((w / 2 ^ 42 % 128 : Nat) : Int),decide (w / 2 ^ 49 % 2 = 1),decide (w / 2 ^ 50 % 2 = 1),⟨#[]⟩⟩
 else ⟨((w % 4 : Nat) : Int),0,0,0,0,false,false,⟨(bytesN (min (w / 4 % 8) 6) (w / 32)).toArray⟩⟩
def rdF (w : Nat) : Option Flit := if rightN w = true∧(decN w).right = true∧wr (decN w) = w then some (decN w) else none
def rdE (w : Nat) : Int := if rightN w = true then (if (decN w).right = true∧wr (decN w) = w then 0 else 2) else 3
theorem chkN_lt (w : Nat) : chkN w < 256 := by
 unfold chkN
 simp only [List.foldl_cons,List.foldl_nil]
 exact Nat.mod_lt _ (by decide)
theorem sealN_lt (w : Nat) : sealN w < 2 ^ 64 := by
 have h1 := chkN_lt w
 have h2 : w % 2 ^ 56 < 2 ^ 56 := Nat.mod_lt _ (by decide)
 unfold sealN
 omega
theorem dataN_lt (l : List UInt8) : dataN l < 256 ^ l.length := by
 induction l with
 | nil => simp [dataN]
 | cons b l ih =>
  have := b.toNat_lt
  simp only [dataN,List.length_cons,Nat.pow_succ]
  omega
theorem rdF_some {w : Nat} {f : Flit} (h : rdF w = some f) : f.right = true∧wr f = w∧decN w = f∧rdE w = 0 := by
 unfold rdF at h
 split at h
 ·
  rename_i h1
  simp only [Option.some.injEq] at h
  subst h
  refine ⟨h1.2.1,h1.2.2,rfl,?_⟩
  unfold rdE
  rw [if_pos h1.1,if_pos h1.2]
 ·
  cases h
open Go.RowKit
def nPl (n : Int) : Int := min (max n 1) 4096
theorem fair_new (n : Int) (w : World) :
  Calls Tryz.prog 116 #[.int .i64 n] w fun e w' => e = .returned (.pointer (some ⟨w.heap.size,0,none⟩))∧w' = w.alloc (.cells #[.int .i64 (nPl n),.int .i64 (-1)] 217) := by
 go_enter Tryz.func116,Tryz.ntmps116
 go_wp2
 all_goals go_ret
 all_goals exact ⟨rfl,by have : nPl n = min (max n 1) 4096 := rfl; congr 5; omega⟩
def firstI (places : Int) (ans : Nat→Bool) : Option Nat := (List.range places.toNat).find? ans
def seeR (places last : Int) (ans : Nat→Bool) : Option Int := (firstI places ans).map fun k => (last + 1 + k) % places
def cntI (places : Int) (ans : Nat→Bool) : Nat := ((firstI places ans).map (· + 1)).getD places.toNat
theorem firstI_some {places : Int} {ans : Nat→Bool} {k : Nat} (hk : (k : Int) < places) (ha : ans k = true) (hno : ∀ j,j < k→ans j = false) : firstI places ans = some k := by
 unfold firstI
 rw [List.find?_range_eq_some]
 exact ⟨ha,by simp; omega,fun j hj => by simp [hno j hj]⟩
theorem firstI_none {places : Int} {ans : Nat→Bool} (hno : ∀ j : Nat,(j : Int) < places→ans j = false) : firstI places ans = none := by
 unfold firstI
 rw [List.find?_range_eq_none]
 intro j hj
 simp [hno j (by omega)]
def setLast (b : Nat) : Option Int→World→World
 | none,w => w
 | some v,w => w.setCell ⟨b,1,none⟩ (.int .i64 v)
def SeePost (places last : Int) (ans : Nat→Bool) (I : Nat→World→Prop) (e : Ending) (w' : World) : Prop :=
 e = .returned (.tuple #[.int .i64 ((seeR places last ans).getD 0),.bool (seeR places last ans).isSome])∧I (cntI places ans) w'
def NextPost (b : Nat) (places last : Int) (ans : Nat→Bool) (I : Nat→World→Prop) (e : Ending) (w' : World) : Prop :=
 e = .returned (.tuple #[.int .i64 ((seeR places last ans).getD 0),.bool (seeR places last ans).isSome])∧∃ w1,I (cntI places ans) w1∧w' = setLast b (seeR places last ans) w1
structure Asks (g : Nat) (lb : Array Value) (b : Nat) (places last : Int) (ans : Nat→Bool) (I : Nat→World→Prop) : Prop where
 p1 : 1 ≤ places
 p2 : places ≤ 4096
 l1 : -1 ≤ last
 l2 : last < places
 enters : ∀ args w,(callFunc g args).run Tryz.prog w = .ok (.enter g args) w
 c0 : ∀ i w,I i w→w.cell? ⟨b,0,none⟩ = some (.int .i64 places)
 c1 : ∀ i w,I i w→w.cell? ⟨b,1,none⟩ = some (.int .i64 last)
 fz : ∀ i w,I i w→w.frozen? ⟨b,1,none⟩ = false
 drewN : ∀ i w n,I i w→I i (w.drewN n)
 call : ∀ (i : Nat) w,(i : Int) < places→I i w→Calls Tryz.prog g (#[.int .i64 ((last + 1 + i) % places)] ++ lb) w fun e w' => e = .returned (.bool (ans i))∧I (i + 1) w'
theorem fair_see (g : Nat) (lb : Array Value) (b : Nat) (places last : Int) (ans : Nat→Bool) (I : Nat→World→Prop) (w : World) (hA : Asks g lb b places last ans I) (hI : I 0 w) :
  Calls Tryz.prog 171 #[.pointer (some ⟨b,0,none⟩),.func (.func g) #[] lb] w (SeePost places last ans I) := by
 have p1 := hA.p1
 have p2 := hA.p2
 have l1 := hA.l1
 have l2 := hA.l2
 have hc0 := hA.c0 0 w hI
 have hc1 := hA.c1 0 w hI
 have eg := hA.enters
 go_enter Tryz.func171,Tryz.ntmps171
 go_wp2
 clear hc0 hc1
 go_loopw [14] (fun i wr => ∃ k : Nat,(k : Int) ≤ places∧i = .int .i64 k∧I k wr∧∀ j,j < k→ans j = false) (fun i _ => (places - intOf i).toNat)
 case atStart => exact ⟨0,by omega,rfl,hI,fun j hj => by omega⟩
 case round =>
  obtain ⟨k,hk,rfl,hIk,hno⟩ := hrel
  have hc0 := hA.c0 k wr hIk
  have hc1 := hA.c1 k wr hIk
  by_cases hlt : (k : Int) < places
  ·
   go_wp2
   go_quiet (fail)
   go_wp2_with fail
   refine (hA.call k _ hlt (hA.drewN k wr _ hIk)).mono ?_
   rintro e w1 ⟨rfl,hI1⟩
   by_cases ha : ans k = true
   ·
    rw [ha]
    go_wp2
    go_ret2
    have hf := firstI_some hlt ha hno
    exact ⟨by simp [seeR,hf],by simpa [cntI,hf] using hI1⟩
   ·
    have ha' : ans k = false := by simpa using ha
    rw [ha']
    go_wp2
    go_roundw
    case rel => exact ⟨k + 1,by omega,by go_num,hI1,fun j hj => if h : j = k then h ▸ ha' else hno j (by omega)⟩
    case measure => simp [intOf]; omega
  ·
   go_wp2
   go_ret2
   have hk' : (k : Int) = places := by omega
   have hf := firstI_none (places := places) (ans := ans) fun j hj => hno j (by omega)
   exact ⟨by simp [seeR,hf],by
                  have e : places.toNat = k := by omega
                  simp only [cntI,hf,e]; exact hIk⟩
theorem fair_next (g : Nat) (lb : Array Value) (b : Nat) (places last : Int) (ans : Nat→Bool) (I : Nat→World→Prop) (w : World) (hA : Asks g lb b places last ans I) (hI : I 0 w) :
  Calls Tryz.prog 138 #[.pointer (some ⟨b,0,none⟩),.func (.func g) #[] lb] w (NextPost b places last ans I) := by
 go_enter Tryz.func138,Tryz.ntmps138
 go_wp2_with fail
 refine (fair_see g lb b places last ans I w hA hI).mono ?_
 rintro e w1 ⟨rfl,hI1⟩
 cases hr : seeR places last ans with
 | none =>
  simp only [Option.getD_none,Option.isSome_none]
  go_wp2
  go_ret2
  exact ⟨by rw [hr]; rfl,w1,hI1,by rw [hr]; rfl⟩
 | some v =>
  simp only [Option.getD_some,Option.isSome_some]
  have hfz := hA.fz _ _ hI1
  have hc1 := hA.c1 _ _ hI1
  have HR := Lib.hid hr
  clear hr
  go_wp2
  go_ret2
  exact ⟨by rw [HR.out]; rfl,w1,hI1,by rw [HR.out]; rfl⟩
def FairAt (w : World) (b : Nat) (places last : Int) : Prop := w.heap[b]? = some (.cells #[.int .i64 places,.int .i64 last] 217)
theorem FairAt.c0 {w : World} {b : Nat} {places last : Int} (h : FairAt w b places last) : w.cell? ⟨b,0,none⟩ = some (.int .i64 places) := by simp [FairAt] at h; simp [World.cell?,h]
theorem FairAt.c1 {w : World} {b : Nat} {places last : Int} (h : FairAt w b places last) : w.cell? ⟨b,1,none⟩ = some (.int .i64 last) := by simp [FairAt] at h; simp [World.cell?,h]
theorem FairAt.fz {w : World} {b : Nat} {places last : Int} (h : FairAt w b places last) (i : Nat) : w.frozen? ⟨b,i,none⟩ = false := by simp [FairAt] at h; simp [World.frozen?,h]
theorem FairAt.lt {w : World} {b : Nat} {places last : Int} (h : FairAt w b places last) : b < w.heap.size := World.block_lt_of_cell? (a := ⟨b,0,none⟩) _ h.c0
theorem FairAt.set {w : World} {b : Nat} {places last : Int} (h : FairAt w b places last) (r : Option Int) : FairAt (setLast b r w) b places (r.getD last) := by
 cases r with
 | none => exact h
 | some v =>
  simp only [FairAt] at h ⊢
  simp [setLast,World.setCell,Array.getElem?_modify,h]
theorem setLast_mod {w : World} {b : Nat} (r : Option Int) {S : Nat→Prop} (hS : S b) : Mod S w (setLast b r w) := by
 cases r with
 | none => exact Mod.refl _ _
 | some v => exact (Mod.refl _ _).setCell (Or.inl hS) _
theorem FairAt.later {w w' : World} {b : Nat} {places last : Int} (h : FairAt w b places last) {S : Nat→Prop} (hm : Mod S w w') (hS : ¬ S b) : FairAt w' b places last :=
 (hm.block b h.lt hS).trans h
end Go.Proofs.YtfiklfkfbcpmgaaGreat
