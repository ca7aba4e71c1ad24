/- Parts: Bits BitsB FlitR FlitW FlitX FlitY. No condition. -/
import Derived.Test.YtfiklfkfbcpmgaaGreatJ03
import Derived.Test.YtfiklfkfbcpmgaaGreatJ01
import Derived.Laws.Bits64b
import Derived.BigQuiet
import Derived.Deep.RegionLaw
import Derived.BigRegion
import Derived.Laws.IdiomStrings
set_option linter.all false
set_option maxRecDepth 100000
set_option maxHeartbeats 3200000
namespace Go.Proofs.YtfiklfkfbcpmgaaGreat
open Go.RowKit
theorem wrap_u64_in (a : Int) (h : 0 ≤ a∧a < 18446744073709551616) : IntKind.u64.wrap a = a := by
 rw [IntKind.wrap_u64]
 omega
theorem two_pow_le63 {k : Nat} (h : k ≤ 63) : 1 ≤ 2 ^ k∧2 ^ k ≤ 9223372036854775808 := by
 refine ⟨Nat.one_le_two_pow,?_⟩
 exact Nat.le_trans (Nat.pow_le_pow_right (by decide) h) (by decide)
theorem bits_mask (k : Nat) (w : World) (hk : k ≤ 63) :
  Calls Tryz.prog 216 #[.int .i64 (k : Int)] w fun e w' => e = .returned (.int .u64 (((2 ^ k - 1 : Nat)) : Int))∧w' = w := by
 have hp := two_pow_le63 hk
 have e : IntKind.u64.wrap (IntKind.u64.wrap (2 ^ k) - 1) = ((2 ^ k - 1 : Nat) : Int) := by
  have e1 : (2 : Int) ^ k = ((2 ^ k : Nat) : Int) := by push_cast; rfl
  rw [e1]
  generalize 2 ^ k = z at hp
  rw [wrap_u64_in (z : Int) (by omega),wrap_u64_in _ (by omega)]
  omega
 have HE := Lib.hid e
 clear e hp
 go_enter Tryz.func216,Tryz.ntmps216
 go_wp2
 go_ret
 exact ⟨by rw [← HE.out]; rfl,rfl⟩
theorem bits_field (p s : Nat) (w : World) (h1 : 1 ≤ s) (h2 : s ≤ 32) (h3 : p + s ≤ 64) :
  Calls Tryz.prog 222 #[.int .i64 (p : Int),.int .i64 (s : Int)] w fun e w' => e = .returned (.bool true)∧w' = w := by
 have q1 : (0 : Int) < (s : Int) := by omega
 have q2 : (s : Int) ≤ 32 := by omega
 have q3 : (0 : Int) ≤ (p : Int) := by omega
 have q4 : (p : Int) ≤ 64 - (s : Int) := by omega
 go_enter Tryz.func222,Tryz.ntmps222
 go_wp2
 go_ret
 exact ⟨by simp,rfl⟩
theorem bits_mask2 (w : World) :
  Calls Tryz.prog 213 #[] w fun e w' => e = .returned (.int .u64 ((2 ^ 56 - 1 : Nat) : Int))∧w' = w := by
 go_enter Tryz.func213,Tryz.ntmps213
 go_wp2_with fail
 refine (bits_mask 56 _ (by decide)).mono ?_
 rintro e w1 ⟨rfl,rfl⟩
 go_wp2
 go_ret
 exact ⟨rfl,rfl⟩
def chkK (x k : Nat) : Nat := ([0,8,16,24,32,40,48].take k).foldl (fun n p => (n * 31 + x / 2 ^ p % 256 + 7) % 256) 0
theorem chkK_step (x k : Nat) (hk : k < 7) : chkK x (k + 1) = (chkK x k * 31 + x / 2 ^ (8 * k) % 256 + 7) % 256 := by
 unfold chkK
 rw [List.take_add_one,List.foldl_append]
 have : ([0,8,16,24,32,40,48] : List Nat)[k]? = some (8 * k) := by
  match k,hk with
  | 0,_ => rfl
  | 1,_ => rfl
  | 2,_ => rfl
  | 3,_ => rfl
  | 4,_ => rfl
  | 5,_ => rfl
  | 6,_ => rfl
 rw [this]
 rfl
theorem chkK_lt (x k : Nat) : chkK x k < 256 := by
 cases k with
 | zero => simp [chkK]
 | succ k =>
  rcases Nat.lt_or_ge k 7 with h | h
  ·
   rw [chkK_step x k h]
   exact Nat.mod_lt _ (by decide)
  ·
   have : chkK x (k + 1) = chkN x := by
    unfold chkK chkN
    rw [List.take_of_length_le (by simp; omega)]
   rw [this]
   exact chkN_lt x
theorem bits_check (x : Nat) (w : World) (hx : x < 2 ^ 64) :
  Calls Tryz.prog 214 #[.int .u64 (x : Int)] w fun e w' => e = .returned (.int .u32 ((chkN x : Nat) : Int))∧w' = w := by
 go_enter Tryz.func214,Tryz.ntmps214
 go_wp2
 go_loopw [3,4] (fun q i wr => ∃ (k : Nat),k ≤ 7∧q = .int .u8 ((chkK x k : Nat) : Int)∧i = .int .i64 (((8 * k : Nat)) : Int)∧wr = w) (fun _ i _ => 56 - (intOf i).toNat)
 case atStart => exact ⟨0,by omega,by simp [chkK],by simp,rfl⟩
 case round =>
  obtain ⟨k,hk,rfl,rfl,rfl⟩ := hrel
  have hn := chkK_lt x k
  obtain ⟨n,hf⟩ : ∃ n,n = chkK x k := ⟨_,rfl⟩
  rw [← hf] at hn ⊢
  have HF := Lib.hid hf
  clear hf
  by_cases hlt : k < 7
  ·
   have b0 : ((8 * k : Nat) : Int) < 56 := by omega
   have b1 : (0 : Int) ≤ ((8 * k : Nat) : Int) := by omega
   have hst := chkK_step x k hlt
   rw [← HF.out] at hst
   have HST := Lib.hid hst
   have e1 : ((x : Int) / 2 ^ (8 * k)) = ((x / 2 ^ (8 * k) : Nat) : Int) := by push_cast; rfl
   have HE1 := Lib.hid e1
   clear hst e1
   go_wp2
   go_roundw
   case rel =>
    refine ⟨k + 1,by omega,?_,by go_num,trivial⟩
    rw [HST.out,HE1.out]
    generalize x / 2 ^ (8 * k) = z
    congr 1
    omega
   case measure => simp [intOf]; omega
  ·
   have b0 : ¬ ((8 * k : Nat) : Int) < 56 := by omega
   have hfin : n = chkN x := by
    rw [HF.out]
    unfold chkK chkN
    rw [List.take_of_length_le (by simp; omega)]
   have HN := Lib.hid hfin
   clear hfin
   go_wp2
   go_ret
   exact ⟨by rw [← HN.out]; rfl,rfl⟩
theorem and_mask (x k : Nat) : x &&& (2 ^ k - 1) = x % 2 ^ k := Nat.and_two_pow_sub_one_eq_mod x k
theorem or_shift (x y k : Nat) (h : x < 2 ^ k) : x ||| (y * 2 ^ k) = x + y * 2 ^ k := by
 rw [Nat.or_comm,Nat.mul_comm,← Nat.two_pow_add_eq_or_of_lt h,Nat.add_comm]
theorem bits_seal (x : Nat) (w : World) (hx : x < 2 ^ 64) :
  Calls Tryz.prog 195 #[.int .u64 (x : Int)] w fun e w' => e = .returned (.int .u64 ((sealN x : Nat) : Int))∧w' = w := by
 have e1 : bits BinOp.and IntKind.u64 (x : Int) 72057594037927935 = ((x % 2 ^ 56 : Nat) : Int) := by
  have := bits_and_u64_nat x (2 ^ 56 - 1) (by omega) (by decide)
  rw [and_mask] at this
  exact this
 have h56 : x % 2 ^ 56 < 2 ^ 56 := Nat.mod_lt _ (by decide)
 have hc := chkN_lt x
 have e2 : bits BinOp.or IntKind.u64 ((x % 2 ^ 56 : Nat) : Int) ((chkN x : Int) * 72057594037927936) = ((sealN x : Nat) : Int) := by
  unfold sealN
  generalize chkN x = c at hc
  generalize x % 2 ^ 56 = y at h56
  rw [show (c : Int) * 72057594037927936 = ((c * 2 ^ 56 : Nat) : Int) by omega,bits_or_u64_nat _ _ (by omega) (by omega),or_shift _ _ _ h56]
 have HX := Lib.hid hx
 have HE1 := Lib.hid e1
 have HE2 := Lib.hid e2
 clear e1 e2 hx
 go_enter Tryz.func195,Tryz.ntmps195
 go_wp2_with fail
 refine (bits_mask2 _).mono ?_
 rintro e w1 ⟨rfl,rfl⟩
 go_wp2_with fail
 refine (bits_check x _ HX.out).mono ?_
 rintro e w1 ⟨rfl,rfl⟩
 go_wp2
 go_ret
 exact ⟨by rw [← HE2.out,← HE1.out]; rfl,rfl⟩
theorem bits_rightW (x : Nat) (w : World) (hx : x < 2 ^ 64) :
  Calls Tryz.prog 197 #[.int .u64 (x : Int)] w fun e w' => e = .returned (.bool (rightN x))∧w' = w := by
 have HX := Lib.hid hx
 have e1 : (((x : Int) / 72057594037927936) == (chkN x : Int)) = rightN x := by
  unfold rightN
  have : ((x : Int) / 72057594037927936) = ((x / 2 ^ 56 : Nat) : Int) := by omega
  rw [this]
  generalize x / 2 ^ 56 = y
  generalize chkN x = c
  by_cases h : y = c
  ·
   rw [h]; simp
  ·
   rw [decide_eq_false h]; simp; omega
 have HE1 := Lib.hid e1
 have hc := chkN_lt x
 generalize rightN x = b at HE1 ⊢
 clear hx e1
 go_enter Tryz.func197,Tryz.ntmps197
 go_wp2_with fail
 refine (bits_check x _ HX.out).mono ?_
 rintro e w1 ⟨rfl,rfl⟩
 go_wp2
 go_ret
 exact ⟨by rw [← HE1.out]; rfl,rfl⟩
theorem flit_kind (x : Nat) (w : World) (hx : x < 2 ^ 64) :
  Calls Tryz.prog 173 #[.int .u64 (x : Int)] w fun e w' => e = .returned (.int .i64 ((x % 4 : Nat) : Int))∧w' = w := by
 have e1 : bits BinOp.and IntKind.u64 (x : Int) 3 = ((x % 4 : Nat) : Int) := by
  have := bits_and_u64_nat x (2 ^ 2 - 1) (by omega) (by decide)
  rw [and_mask] at this
  exact this
 have e2 : wrap64 (bits BinOp.and IntKind.u64 (x : Int) 3) = ((x % 4 : Nat) : Int) := by
  rw [e1]
  unfold wrap64
  omega
 have HE2 := Lib.hid e2
 clear e1 e2
 go_enter Tryz.func173,Tryz.ntmps173
 go_wp2
 go_ret
 exact ⟨by rw [← HE2.out]; rfl,rfl⟩
theorem bits_get (x p s : Nat) (w : World) (hx : x < 2 ^ 64) (h1 : 1 ≤ s) (h2 : s ≤ 32) (h3 : p + s ≤ 64) :
  Calls Tryz.prog 215 #[.int .u64 (x : Int),.int .i64 (p : Int),.int .i64 (s : Int)] w fun e w' => e = .returned (.tuple #[.int .u32 ((x / 2 ^ p % 2 ^ s : Nat) : Int),.int .i64 0])∧Drw w w' := by
 have hlt : x / 2 ^ p < 2 ^ 64 := Nat.lt_of_le_of_lt (Nat.div_le_self _ _) hx
 have hs : 2 ^ s ≤ 4294967296 := Nat.le_trans (Nat.pow_le_pow_right (by decide) h2) (by decide)
 have hs1 : 1 ≤ 2 ^ s := Nat.one_le_two_pow
 have hml : x / 2 ^ p % 2 ^ s < 2 ^ s := Nat.mod_lt _ hs1
 have e0 : (x : Int) / 2 ^ p = ((x / 2 ^ p : Nat) : Int) := by push_cast; rfl
 have e1 : bits BinOp.and IntKind.u64 ((x : Int) / 2 ^ p) ((2 ^ s - 1 : Nat) : Int) = ((x / 2 ^ p % 2 ^ s : Nat) : Int) := by
  rw [e0,bits_and_u64_nat _ _ (by omega) (by omega),and_mask]
 have HF := Lib.hid (fun w => bits_field p s w h1 h2 h3)
 have HM := Lib.hid (fun w => bits_mask s w (by omega))
 obtain ⟨y,hy⟩ : ∃ y,x / 2 ^ p % 2 ^ s = y := ⟨_,rfl⟩
 obtain ⟨m,hm⟩ : ∃ m,2 ^ s - 1 = m := ⟨_,rfl⟩
 rw [hy] at e1 hml ⊢
 rw [hm] at e1 HM
 have hy2 : y < 4294967296 := by omega
 have HE1 := Lib.hid e1
 have b0 : (0 : Int) ≤ (p : Int) := by omega
 have b1 : (p : Int) ≤ 64 := by omega
 clear e0 e1 hy hm hlt hml hs hs1 hx
 go_enter Tryz.func215,Tryz.ntmps215
 go_wp2_with fail
 refine (HF.out _).mono ?_
 rintro e w1 ⟨rfl,rfl⟩
 go_upto_region 3 with fail
 go_cut [6,7] (fun z z2 w' => z = .int .u32 (y : Int)∧z2 = .int .i64 0∧Drw w1 w')
 case first => as_aux_lemma =>
  go_quiet ((go_at_call 216; exact Calls.quiet_of_same (HM.out _)))
  all_goals go_wp2_with fail
  all_goals go_meet
  all_goals exact ⟨by rw [HE1.out]; congr 1; omega,rfl,Drw.drewN _ _⟩
 case rest =>
  obtain ⟨rfl,rfl,d1⟩ := hcut
  go_wp2
  go_ret2
  exact ⟨rfl,d1⟩
theorem andNot_above (x m k : Nat) (hx : x < 2 ^ k) (hk : k ≤ 64) (hm : m * 2 ^ k < 2 ^ 64) : bits BinOp.andNot IntKind.u64 (x : Int) ((m * 2 ^ k : Nat) : Int) = (x : Int) := by
 have hx64 : x < 2 ^ 64 := Nat.lt_of_lt_of_le hx (Nat.pow_le_pow_right (by decide) hk)
 have h1 : (BitVec.ofInt 64 (x : Int)).toNat = x := by
  rw [BitVec.ofInt_natCast,BitVec.toNat_ofNat]; exact Nat.mod_eq_of_lt (by omega)
 have h2 : (BitVec.ofInt 64 ((m * 2 ^ k : Nat) : Int)).toNat = m * 2 ^ k := by
  rw [BitVec.ofInt_natCast,BitVec.toNat_ofNat]; exact Nat.mod_eq_of_lt (by omega)
 have h3 : (BitVec.ofInt 64 (x : Int) &&& ~~~ BitVec.ofInt 64 ((m * 2 ^ k : Nat) : Int)) = BitVec.ofInt 64 (x : Int) := by
  apply BitVec.eq_of_getLsbD_eq
  intro i hi
  rw [BitVec.getLsbD_and,BitVec.getLsbD_not]
  by_cases hik : i < k
  ·
   have : (BitVec.ofInt 64 ((m * 2 ^ k : Nat) : Int)).getLsbD i = false := by
    rw [BitVec.getLsbD,h2]
    rw [Nat.testBit_mul_two_pow]
    simp
    omega
   rw [this]
   simp [hi]
  ·
   have : (BitVec.ofInt 64 (x : Int)).getLsbD i = false := by
    rw [BitVec.getLsbD,h1]
    exact Nat.testBit_lt_two_pow (Nat.lt_of_lt_of_le hx (Nat.pow_le_pow_right (by decide) (by omega)))
   rw [this]
   simp
 show IntKind.u64.wrap ((BitVec.ofInt 64 (x : Int) &&& ~~~ BitVec.ofInt 64 ((m * 2 ^ k : Nat) : Int)).toNat : Int) = _
 rw [h3,h1,IntKind.wrap_u64]
 omega
theorem put_eq {x p s v : Nat} (hx : x < 2 ^ p) (h2 : s ≤ 32) (h3 : p + s ≤ 64) (hv : v < 2 ^ s) :
  bits BinOp.or IntKind.u64 (bits BinOp.andNot IntKind.u64 (x : Int) (IntKind.u64.wrap (((2 ^ s - 1 : Nat) : Int) * 2 ^ p))) (IntKind.u64.wrap ((v : Int) * 2 ^ p)) = ((x + v * 2 ^ p : Nat) : Int) := by
 have hs : 2 ^ s ≤ 4294967296 := Nat.le_trans (Nat.pow_le_pow_right (by decide) h2) (by decide)
 have hs1 : 1 ≤ 2 ^ s := Nat.one_le_two_pow
 have hps : 2 ^ s * 2 ^ p ≤ 2 ^ 64 := by
  rw [← Nat.pow_add]
  exact Nat.pow_le_pow_right (by decide) (by omega)
 have hp1 : 1 ≤ 2 ^ p := Nat.one_le_two_pow
 have hm2 : (2 ^ s - 1) * 2 ^ p < 2 ^ 64 := by
  rw [Nat.sub_mul]
  omega
 have hv2 : v * 2 ^ p < 2 ^ 64 := by
  have : (v + 1) * 2 ^ p ≤ 2 ^ s * 2 ^ p := Nat.mul_le_mul_right _ hv
  rw [Nat.succ_mul] at this
  omega
 have hx64 : x < 2 ^ 64 := Nat.lt_of_lt_of_le hx (Nat.pow_le_pow_right (by decide) (by omega))
 have e2 : (2 : Int) ^ p = ((2 ^ p : Nat) : Int) := by push_cast; rfl
 rw [e2,← Int.natCast_mul,← Int.natCast_mul,wrap_u64_in _ (by omega),wrap_u64_in _ (by omega),andNot_above x _ p hx (by omega) hm2,bits_or_u64_nat _ _ (by omega) (by omega),or_shift _ _ _ hx]
theorem bits_put (x p s v : Nat) (w : World) (hx : x < 2 ^ p) (h1 : 1 ≤ s) (h2 : s ≤ 32) (h3 : p + s ≤ 64) (hv : v < 2 ^ s) :
  Calls Tryz.prog 212 #[.int .u64 (x : Int),.int .i64 (p : Int),.int .i64 (s : Int),.int .u32 (v : Int)] w fun e w' => e = .returned (.tuple #[.int .u64 ((x + v * 2 ^ p : Nat) : Int),.int .i64 0])∧Drw w w' := by
 have HX := Lib.hid hx
 have HV := Lib.hid hv
 have HF := Lib.hid (fun w => bits_field p s w h1 h2 h3)
 have HM := Lib.hid (fun w => bits_mask s w (by omega))
 obtain ⟨y,hy⟩ : ∃ y,x + v * 2 ^ p = y := ⟨_,rfl⟩
 obtain ⟨m,hm⟩ : ∃ m,2 ^ s - 1 = m := ⟨_,rfl⟩
 have hvm : ¬ m < v := by omega
 have hw := wrap_u64_in (v : Int) (by have := Nat.le_trans (Nat.pow_le_pow_right (n := 2) (by decide) h2) (by decide : 2 ^ 32 ≤ 4294967296); omega)
 have q9 : ¬ ((m : Int) < IntKind.u64.wrap (v : Int)) := by rw [hw]; omega
 have HW := Lib.hid hw
 have HY := Lib.hid hy
 have HMM := Lib.hid hm
 rw [hy]
 rw [hm] at HM
 have b0 : (0 : Int) ≤ (p : Int) := by omega
 have b1 : (p : Int) ≤ 64 := by omega
 clear hy hm hx hv hw hvm
 go_enter Tryz.func212,Tryz.ntmps212
 go_wp2_with fail
 refine (HF.out _).mono ?_
 rintro e w1 ⟨rfl,rfl⟩
 go_wp2_with fail
 refine (HM.out _).mono ?_
 rintro e w1 ⟨rfl,rfl⟩
 go_upto_region 5 with fail
 go_cut [8,9] (fun z z2 w' => z = .int .u64 (y : Int)∧z2 = .int .i64 0∧Drw w1 w')
 case first => as_aux_lemma =>
  go_quiet ((go_at_call 216; exact Calls.quiet_of_same (HM.out _)))
  all_goals go_wp2_with fail
  all_goals go_meet
  all_goals exact ⟨by rw [← HY.out,← put_eq HX.out h2 h3 HV.out,HMM.out,HW.out],rfl,Drw.drewN _ _⟩
 case rest =>
  obtain ⟨rfl,rfl,d1⟩ := hcut
  go_wp2
  go_ret2
  exact ⟨rfl,d1⟩
def FitL : Nat→List Nat→Prop
 | _,[] => True
 | p,s :: l => 1 ≤ s∧s ≤ 32∧p + s ≤ 64∧FitL (p + s) l
def sumL (l : List Nat) : Nat := l.foldl (· + ·) 0
theorem sumL_take {l : List Nat} {k s : Nat} (h : l[k]? = some s) : sumL (l.take (k + 1)) = sumL (l.take k) + s := by
 unfold sumL
 rw [List.take_add_one,h,List.foldl_append]
 rfl
theorem fitL_at {l : List Nat} : ∀ {p k s : Nat},FitL p l→l[k]? = some s→1 ≤ s∧s ≤ 32∧p + (l.take k).foldl (· + ·) 0 + s ≤ 64 := by
 induction l with
 | nil => intro p k s _ h; simp at h
 | cons a l ih =>
  intro p k s hf h
  cases k with
  | zero =>
   simp at h
   subst h
   exact ⟨hf.1,hf.2.1,by simpa using hf.2.2.1⟩
  | succ k =>
   simp at h
   obtain ⟨h1,h2,h3⟩ := ih hf.2.2.2 h
   refine ⟨h1,h2,?_⟩
   have e : ∀ (m : List Nat) (z : Nat),m.foldl (· + ·) z = z + m.foldl (· + ·) 0 := by
    intro m
    induction m with
    | nil => intro z; simp
    | cons b m ihm => intro z; rw [List.foldl_cons,List.foldl_cons,ihm (z + b),ihm (0 + b)]; omega
   rw [List.take_succ_cons,List.foldl_cons,e]
   omega
def natsI (l : List Nat) : List Int := l.map fun (n : Nat) => (n : Int)
theorem natsI_get {l : List Nat} {k s : Nat} (h : l[k]? = some s) : ((natsI l).map (Value.int .i64)).getD k undef = .int .i64 (s : Int) := by
 simp only [natsI,List.map_map,List.getD_eq_getElem?_getD,List.getElem?_map,h]; rfl
theorem bits_fits (u : Value) (l : List Nat) (w : World) (hs : SlV w u ((natsI l).map (Value.int .i64))) (hf : FitL 0 l) :
  Calls Tryz.prog 211 #[u] w fun e w' => e = .returned (.bool true)∧w' = w := by
 obtain ⟨a,n,c,rfl,hn,hc,hm,-⟩ := id hs
 have hn : l.length = n := by simpa [natsI] using hn
 have HS := Lib.hid hs
 have HFit := Lib.hid hf
 have HN := Lib.hid hn
 unfold maxLen at hm
 clear hs hf hn
 go_enter Tryz.func211,Tryz.ntmps211
 go_wp2
 go_loopw [3,8] (fun q i wr => ∃ k : Nat,k ≤ n∧q = .int .i64 ((sumL (l.take k) : Nat) : Int)∧sumL (l.take k) ≤ 64∧i = .int .i64 (k : Int)∧wr = w) (fun _ i _ => n - (intOf i).toNat)
 case atStart => exact ⟨0,by omega,by simp [sumL],by simp [sumL],by simp,rfl⟩
 case round =>
  obtain ⟨k,hk,rfl,hq,rfl,rfl⟩ := hrel
  by_cases hlt : k < n
  ·
   obtain ⟨s,hs⟩ : ∃ s,l[k]? = some s := ⟨_,List.getElem?_eq_getElem (by have := HN.out; omega)⟩
   obtain ⟨B,off,rfl,hB,d⟩ := HS.out.at k hlt
   rw [natsI_get hs] at d
   have hfit := fitL_at HFit.out hs
   rw [show (l.take k).foldl (· + ·) 0 = sumL (l.take k) from rfl] at hfit
   have hst := sumL_take hs
   obtain ⟨q,hqe⟩ : ∃ q,sumL (l.take k) = q := ⟨_,rfl⟩
   rw [hqe] at hfit hst hq ⊢
   have HST := Lib.hid hst
   have HFI := Lib.hid hfit
   have b0 : (0 : Int) ≤ (k : Int) := by omega
   have b1 : (k : Int) < (n : Int) := by omega
   have b2 : q ≤ 64 := by omega
   have b3 : s ≤ 32 := by omega
   clear hs hst hqe hfit
   go_wp2_with fail
   refine (bits_field q s _ HFI.out.1 HFI.out.2.1 (by have := HFI.out.2.2; omega)).mono ?_
   rintro e w1 ⟨rfl,rfl⟩
   go_wp2
   go_roundw
   case rel => exact ⟨k + 1,by omega,by rw [HST.out]; go_num,by rw [HST.out]; have := HFI.out.2.2; omega,by go_num,trivial⟩
   case measure => simp [intOf]; omega
  ·
   go_wp2
   go_ret
   exact ⟨rfl,rfl⟩
open Go.RowKit
def packF (l : List (Nat × Nat)) : Nat × Nat := l.foldl (fun x q => (x.1 + q.2 * 2 ^ x.2,x.2 + q.1)) (0,0)
theorem packF_step {l : List (Nat × Nat)} {k : Nat} {q : Nat × Nat} (h : l[k]? = some q) : packF (l.take (k + 1)) = ((packF (l.take k)).1 + q.2 * 2 ^ (packF (l.take k)).2,(packF (l.take k)).2 + q.1) := by
 unfold packF
 rw [List.take_add_one,h,List.foldl_append]
 rfl
theorem packF_at (l : List (Nat × Nat)) (k : Nat) : (packF (l.take k)).2 = sumL ((l.map (·.1)).take k) := by
 induction k with
 | zero => rfl
 | succ k ih =>
  rcases Nat.lt_or_ge k l.length with h | h
  ·
   have hq : l[k]? = some l[k] := List.getElem?_eq_getElem h
   rw [packF_step hq,sumL_take (s := l[k].1) (by rw [List.getElem?_map,hq]; rfl),ih]
  ·
   rw [List.take_of_length_le (by omega),List.take_of_length_le (by simp; omega)]
   rw [List.take_of_length_le (by omega),List.take_of_length_le (by simp; omega)] at ih
   exact ih
theorem packF_lt (l : List (Nat × Nat)) (hv : ∀ q ∈ l,q.2 < 2 ^ q.1) (k : Nat) : (packF (l.take k)).1 < 2 ^ (packF (l.take k)).2 := by
 induction k with
 | zero => simp [packF]
 | succ k ih =>
  rcases Nat.lt_or_ge k l.length with h | h
  ·
   have hq : l[k]? = some l[k] := List.getElem?_eq_getElem h
   rw [packF_step hq]
   have h1 := hv l[k] (List.getElem_mem h)
   show (packF (l.take k)).1 + l[k].2 * 2 ^ (packF (l.take k)).2 < 2 ^ ((packF (l.take k)).2 + l[k].1)
   rw [Nat.pow_add,Nat.mul_comm (2 ^ _)]
   have h2 : (l[k].2 + 1) * 2 ^ (packF (l.take k)).2 ≤ 2 ^ l[k].1 * 2 ^ (packF (l.take k)).2 := Nat.mul_le_mul_right _ h1
   rw [Nat.succ_mul] at h2
   omega
  ·
   rw [List.take_of_length_le (by omega)]
   rw [List.take_of_length_le (by omega)] at ih
   exact ih
def natsU (l : List Nat) : List Value := l.map fun (n : Nat) => Value.int .u32 (n : Int)
theorem natsU_get {l : List Nat} {k s : Nat} (h : l[k]? = some s) : (natsU l).getD k undef = .int .u32 (s : Int) := by
 simp only [natsU,List.getD_eq_getElem?_getD,List.getElem?_map,h]; rfl
theorem bits_pack (u v : Value) (l : List (Nat × Nat)) (w : World) (hs : SlV w u ((natsI (l.map (·.1))).map (Value.int .i64))) (hu : SlV w v (natsU (l.map (·.2)))) (hf : FitL 0 (l.map (·.1))) (hv : ∀ q ∈ l,q.2 < 2 ^ q.1) :
  Calls Tryz.prog 194 #[u,v] w fun e w' => e = .returned (.tuple #[.int .u64 (((packF l).1 : Nat) : Int),.int .i64 0])∧Drw w w' := by
 obtain ⟨a,n,c,rfl,hn,hc,hm,-⟩ := id hs
 obtain ⟨a2,n2,c2,rfl,hn2,hc2,hm2,-⟩ := id hu
 have hn : l.length = n := by simpa [natsI] using hn
 obtain rfl : n = n2 := by rw [← hn,← hn2]; simp [natsU]
 have HS := Lib.hid hs
 have HU := Lib.hid hu
 have HFit := Lib.hid hf
 have HV := Lib.hid hv
 have HN := Lib.hid hn
 have HFT := Lib.hid (bits_fits _ _ _ hs hf)
 unfold maxLen at hm hm2
 have q0 : ((n : Int) == (n : Int)) = true := by simp
 obtain ⟨R,hR⟩ : ∃ R,(packF l).1 = R := ⟨_,rfl⟩
 rw [hR]
 have HR := Lib.hid hR
 clear hs hf hn hn2 hu hv hR
 go_enter Tryz.func194,Tryz.ntmps194
 go_wp2_with fail
 refine HFT.out.mono ?_
 rintro e w1 ⟨rfl,rfl⟩
 go_wp2
 go_loopw [6,7,24] (fun x p i wr => ∃ k : Nat,k ≤ n∧x = .int .u64 (((packF (l.take k)).1 : Nat) : Int)∧p = .int .i64 (((packF (l.take k)).2 : Nat) : Int)∧i = .int .i64 (k : Int)∧Drw w1 wr) (fun _ _ i _ => n - (intOf i).toNat)
 case atStart => exact ⟨0,by omega,by simp [packF],by simp [packF],by simp,Drw.refl _⟩
 case round =>
  obtain ⟨k,hk,rfl,rfl,rfl,hd⟩ := hrel
  obtain ⟨wA,rfl⟩ : ∃ wo : World,wo = wr := ⟨_,rfl⟩
  by_cases hlt : k < n
  ·
   obtain ⟨q,hq⟩ : ∃ q,l[k]? = some q := ⟨_,List.getElem?_eq_getElem (by have := HN.out; omega)⟩
   obtain ⟨B,off,rfl,hB,d⟩ := HS.out.at k hlt
   obtain ⟨B2,off2,rfl,hB2,d2⟩ := HU.out.at k hlt
   rw [natsI_get (s := q.1) (by rw [List.getElem?_map,hq]; rfl)] at d
   rw [natsU_get (s := q.2) (by rw [List.getElem?_map,hq]; rfl)] at d2
   have d := (hd.cell ⟨B,off + k,none⟩).trans d
   have d2 := (hd.cell ⟨B2,off2 + k,none⟩).trans d2
   have hfit := fitL_at HFit.out (k := k) (s := q.1) (by rw [List.getElem?_map,hq]; rfl)
   rw [Nat.zero_add,show ((l.map (·.1)).take k).foldl (· + ·) 0 = sumL ((l.map (·.1)).take k) from rfl,← packF_at] at hfit
   have hxl := packF_lt l HV.out k
   have hv := HV.out q (List.mem_of_getElem? hq)
   have hst := packF_step hq
   obtain ⟨x,hx⟩ : ∃ x,(packF (l.take k)).1 = x := ⟨_,rfl⟩
   obtain ⟨p,hp⟩ : ∃ p,(packF (l.take k)).2 = p := ⟨_,rfl⟩
   rw [hx,hp] at hst hxl
   rw [hp] at hfit
   rw [hx,hp]
   obtain ⟨s,z⟩ := q
   dsimp only at d d2 hfit hv hst
   have HST := Lib.hid hst
   have HP := Lib.hid (fun w => bits_put x p s z w hxl hfit.1 hfit.2.1 hfit.2.2 hv)
   have b0 : (0 : Int) ≤ (k : Int) := by omega
   have b1 : (k : Int) < (n : Int) := by omega
   have b2 : p ≤ 64 := by omega
   have b3 : s ≤ 32 := by omega
   clear hq hst hx hp hfit hxl hv
   go_wp2_with fail
   refine (HP.out _).mono ?_
   rintro e w2 ⟨rfl,d3⟩
   have hd2 := hd.trans d3
   have d := (d3.cell ⟨B,off + k,none⟩).trans d
   go_upto_region 10 with fail
   go_quiet (fail)
   go_wp2
   go_roundw
   case rel => exact ⟨k + 1,by omega,by rw [HST.out]; simp,by rw [HST.out]; simp,by go_num,hd2.trans (Drw.drewN _ _)⟩
   case measure => simp [intOf]; omega
  ·
   have hkn : k = n := by omega
   have hfin : packF (l.take k) = packF l := by rw [List.take_of_length_le (by have := HN.out; omega)]
   rw [hfin,HR.out]
   clear hfin
   generalize (packF l).2 = r4
   go_wp2
   go_ret2
   exact ⟨rfl,hd⟩
def unpL : Nat→List Nat→List Nat
 | _,[] => []
 | x,s :: l => x % 2 ^ s :: unpL (x / 2 ^ s) l
theorem sumL_cons (s : Nat) (l : List Nat) : sumL (s :: l) = s + sumL l := by
 have e : ∀ (m : List Nat) (z : Nat),m.foldl (· + ·) z = z + m.foldl (· + ·) 0 := by
  intro m
  induction m with
  | nil => intro z; simp
  | cons b m ihm => intro z; rw [List.foldl_cons,List.foldl_cons,ihm (z + b),ihm (0 + b)]; omega
 unfold sumL
 rw [List.foldl_cons,e]
 omega
theorem unpL_step (x : Nat) (l : List Nat) (k s : Nat) (h : l[k]? = some s) : unpL x (l.take (k + 1)) = unpL x (l.take k) ++ [x / 2 ^ sumL (l.take k) % 2 ^ s] := by
 induction l generalizing x k with
 | nil => simp at h
 | cons a l ih =>
  cases k with
  | zero =>
   simp at h
   subst h
   simp [unpL,sumL]
  | succ k =>
   simp at h
   rw [List.take_succ_cons,List.take_succ_cons,unpL,unpL,ih _ _ h,sumL_cons,Nat.pow_add,Nat.div_div_eq_div_mul]
   rfl
theorem info_u32 : (Tryz.prog.info? 164).map (fun i => (i.zero,i.size,i.bytes)) = some (some (.int .u32 0),1,4) := by kernel_rfl
theorem bits_unpack (u : Value) (x : Nat) (l : List Nat) (w : World) (hx : x < 2 ^ 64) (hs : SlV w u ((natsI l).map (Value.int .i64))) (hf : FitL 0 l) :
  Calls Tryz.prog 199 #[.int .u64 (x : Int),u] w fun e w' => ∃ r,e = .returned (.tuple #[r,.int .i64 0])∧SlV w' r (natsU (unpL x l))∧Mod (fun _ => False) w w'∧∀ g,r.ownBlock = some g→w.heap.size ≤ g := by
 obtain ⟨a,n,c,rfl,hn,hc,hm,-⟩ := id hs
 have hn : l.length = n := by simpa [natsI] using hn
 have HS := Lib.hid hs
 have HFit := Lib.hid hf
 have HN := Lib.hid hn
 have HX := Lib.hid hx
 have HFT := Lib.hid (bits_fits _ _ _ hs hf)
 unfold maxLen at hm
 have hn64 : n ≤ 64 := by
  have hk : ∀ (m : List Nat) (p : Nat),FitL p m→p ≤ 64→p + m.length ≤ 64 := by
   intro m
   induction m with
   | nil => intro p _ h; simpa using h
   | cons a m ih =>
    intro p h hp
    have := ih (p + a) h.2.2.2 h.2.2.1
    have := h.1
    simp only [List.length_cons]
    omega
  have := hk l 0 hf (by omega)
  omega
 clear hs hf hn hx
 go_enter Tryz.func199,Tryz.ntmps199
 go_wp2_with fail
 refine HFT.out.mono ?_
 rintro e w1 ⟨rfl,rfl⟩
 go_wp2
 go_loopw [0,6,14] (fun y o i wr => ∃ k : Nat,k ≤ n∧y = .int .u64 ((x / 2 ^ sumL (l.take k) : Nat) : Int)∧wr.ownsRow w1.heap.size 164 1 o k (natsU (unpL x (l.take k)))∧i = .int .i64 (k : Int)∧Mod (fun q => w1.heap.size ≤ q) w1 wr) (fun _ _ i _ => n - (intOf i).toNat)
 case atStart => exact ⟨0,by omega,by simp [sumL],by simp [unpL,natsU]; exact World.ownsRow_nil _ _ _ _,by simp,Mod.refl _ _⟩
 case round =>
  obtain ⟨k,hk,rfl,hown,rfl,hmod⟩ := hrel
  obtain ⟨wA,rfl⟩ : ∃ wo : World,wo = wr := ⟨_,rfl⟩
  have m0 : Mod (fun _ => False) w1 wA := ⟨hmod.os,hmod.tape,hmod.output,hmod.size,fun i hi _ => hmod.block i hi (by omega)⟩
  by_cases hlt : k < n
  ·
   obtain ⟨s,hsk⟩ : ∃ s,l[k]? = some s := ⟨_,List.getElem?_eq_getElem (by have := HN.out; omega)⟩
   obtain ⟨B,off,rfl,hB,d⟩ := HS.out.at k hlt
   rw [natsI_get hsk] at d
   have d := (m0.cell (p := ⟨B,off + k,none⟩) hB (by simp)).trans d
   have hfit := fitL_at HFit.out hsk
   have hst := unpL_step x l k s hsk
   have hsum := sumL_take hsk
   obtain ⟨y,hy⟩ : ∃ y,x / 2 ^ sumL (l.take k) = y := ⟨_,rfl⟩
   have hy64 : y < 2 ^ 64 := by rw [← hy]; exact Nat.lt_of_le_of_lt (Nat.div_le_self _ _) HX.out
   have e1 : bits BinOp.and IntKind.u64 (y : Int) ((2 ^ s - 1 : Nat) : Int) = ((y % 2 ^ s : Nat) : Int) := by
    have h2 : 2 ^ s ≤ 4294967296 := Nat.le_trans (Nat.pow_le_pow_right (by decide) hfit.2.1) (by decide)
    rw [bits_and_u64_nat _ _ (by omega) (by omega),and_mask]
   have e2 : y % 2 ^ s < 4294967296 := by
    have h2 : 2 ^ s ≤ 4294967296 := Nat.le_trans (Nat.pow_le_pow_right (by decide) hfit.2.1) (by decide)
    have h3 : y % 2 ^ s < 2 ^ s := Nat.mod_lt _ (Nat.pow_pos (by decide))
    omega
   have e3 : (y : Int) / 2 ^ s = ((x / 2 ^ sumL (l.take (k + 1)) : Nat) : Int) := by
    rw [hsum,Nat.pow_add,← Nat.div_div_eq_div_mul,hy]
    push_cast
    rfl
   rw [hy] at hst ⊢
   have HST := Lib.hid hst
   have HE1 := Lib.hid e1
   have HE2 := Lib.hid e2
   have HE3 := Lib.hid e3
   have HM := Lib.hid (fun w => bits_mask s w (by omega))
   have b0 : (0 : Int) ≤ (k : Int) := by omega
   have b1 : (k : Int) < (n : Int) := by omega
   have b3 : (s : Int) ≤ 32 := by omega
   have b4 : (0 : Int) ≤ (s : Int) := by omega
   have hlow := fun i e => (hown.lt i e).1
   have hsz := hmod.size
   obtain ⟨mk,hmk⟩ : ∃ mk,2 ^ s - 1 = mk := ⟨_,rfl⟩
   rw [hmk] at HE1 HM
   clear hsk hfit hst hsum hy hy64 e1 e2 e3 hmk
   go_wp2_with fail
   refine (HM.out _).mono ?_
   rintro e w2 ⟨rfl,rfl⟩
   go_wp2_with (at_builtin; refine wpList_append1 rfl _ _ 237 rfl w1.heap.size 164 (.int .u32 0) 4 Tryz.underlying237 info_u32 rfl _ _ _ rfl hown _ rfl rfl (by unfold maxLen; omega) (by omega) (by omega) ?_; intro v7 wz hown7 hm7)
   go_roundw
   case rel =>
    refine ⟨k + 1,by omega,by rw [← HE3.out],?_,by go_num,hmod.trans hm7 (fun i hi e => hlow i e)⟩
    rw [HST.out]
    have e5 : bits BinOp.and IntKind.u64 (y : Int) (mk : Int) % 4294967296 = ((y % 2 ^ s : Nat) : Int) := by rw [HE1.out]; have := HE2.out; omega
    rw [e5] at hown7
    simpa [natsU] using hown7
   case measure => simp [intOf]; omega
  ·
   have hkn : k = n := by omega
   have hfin : unpL x (l.take k) = unpL x l := by rw [List.take_of_length_le (by have := HN.out; omega)]
   rw [hfin] at hown
   have HO := Lib.hid (SlV.own hown)
   have HL := Lib.hid (fun i e => (hown.lt i e).1)
   clear hown hfin
   go_wp2
   go_ret2
   exact ⟨_,rfl,HO.out,m0,HL.out⟩
open Go.RowKit
def Flit.cells (f : Flit) : Array Value := #[.int .i64 f.kind,.int .i64 f.src,.int .i64 f.dst,.int .i64 f.seq,.int .i64 f.len,.bool f.more,.bool f.cast,.string f.data]
theorem flit_node (n : Int) (w : World) :
  Calls Tryz.prog 210 #[.int .i64 n] w fun e w' => e = .returned (.bool (nodeB n))∧w' = w := by
 by_cases h0 : 0 ≤ n
 ·
  by_cases h1 : n < 4096
  all_goals
   go_enter Tryz.func210,Tryz.ntmps210
   go_wp2
   go_ret
   exact ⟨by simp [nodeB,h0,h1],rfl⟩
 ·
  go_enter Tryz.func210,Tryz.ntmps210
  go_wp2
  go_ret
  exact ⟨by simp [nodeB]; omega,rfl⟩
theorem flit_head (w : World) :
  Calls Tryz.prog 192 #[] w fun e w' => ∃ r,e = .returned r∧SlV w' r ((natsI [2,12,12,16,7,1,1]).map (Value.int .i64))∧Mod (fun _ => False) w w' := by
 go_enter Tryz.func192,Tryz.ntmps192
 go_wp2
 go_ret
 exact ⟨_,rfl,SlV.new 3 7 _ rfl 7 rfl,(Mod.refl _ _).alloc _⟩
theorem flit_truth (b : Bool) (w : World) :
  Calls Tryz.prog 193 #[.bool b] w fun e w' => e = .returned (.int .u32 ((b01 b : Nat) : Int))∧w' = w := by
 cases b
 all_goals
  go_enter Tryz.func193,Tryz.ntmps193
  go_wp2
  go_ret
  exact ⟨rfl,rfl⟩
theorem bytes_empty {d : ByteArray} (h : d.size = 0) : d = ⟨#[]⟩ := ByteArray.ext (Array.eq_empty_of_size_eq_zero h)
theorem list_injF {a b : ByteArray} (h : a.toList = b.toList) : a = b := by
 rw [ByteArray.toList_eq,ByteArray.toList_eq] at h
 exact WideShapes.bytes_inj h
theorem list_inj0 {d : ByteArray} (h : d.toList = []) : d = ⟨#[]⟩ := list_injF (by rw [h,ByteArray.toList_eq])
theorem bytes_full {d : ByteArray} (h : d.size ≠ 0) : ¬ d = ⟨#[]⟩ := fun e => h (by rw [e]; rfl)
theorem flit_right (f : Flit) (w : World) :
  Calls Tryz.prog 191 #[.agg f.cells] w fun e w' => e = .returned (.bool f.right)∧Mod (fun _ => False) w w' := by
 have kb := Blk.made w f.cells 197
 have m0 : Mod (fun _ => False) w (w.alloc (.cells f.cells 197)) := (Mod.refl _ _).alloc _
 obtain ⟨kind,src,dst,seq,len,more,cast,data⟩ := f
 generalize hb : Flit.right ⟨kind,src,dst,seq,len,more,cast,data⟩ = r
 generalize hbare : Flit.bare ⟨kind,src,dst,seq,len,more,cast,data⟩ = br
 have HB := Lib.hid hb
 have HBR := Lib.hid hbare
 simp only [Flit.cells] at kb m0 ⊢
 clear hb hbare
 go_enter Tryz.func191,Tryz.ntmps191
 go_upto_region 1 with fail
 generalize w.alloc (.cells #[.int .i64 kind,.int .i64 src,.int .i64 dst,.int .i64 seq,.int .i64 len,.bool more,.bool cast,.string data] 197) = w1 at kb m0 ⊢
 have y0 := kb.cell 0
 have y1 := kb.cell 1
 have y2 := kb.cell 2
 have y3 := kb.cell 3
 have y4 := kb.cell 4
 have y5 := kb.cell 5
 have y6 := kb.cell 6
 have y7 := kb.cell 7
 simp at y0 y1 y2 y3 y4 y5 y6 y7
 clear kb
 go_cut [3] (fun z w' => z = .bool br∧w1 = w')
 case first => as_aux_lemma =>
  by_cases h_src : src = 0
  rotate_left
  ·
   have q_src : (src == 0) = false := beq_eq_false_iff_ne.2 h_src
   go_wp2_with fail
   all_goals go_meet
   all_goals exact ⟨by rw [← HBR.out]; simp [Flit.bare,h_src],rfl⟩
  subst h_src
  by_cases h_dst : dst = 0
  rotate_left
  ·
   have q_dst : (dst == 0) = false := beq_eq_false_iff_ne.2 h_dst
   go_wp2_with fail
   all_goals go_meet
   all_goals exact ⟨by rw [← HBR.out]; simp [Flit.bare,h_dst],rfl⟩
  subst h_dst
  by_cases h_seq : seq = 0
  rotate_left
  ·
   have q_seq : (seq == 0) = false := beq_eq_false_iff_ne.2 h_seq
   go_wp2_with fail
   all_goals go_meet
   all_goals exact ⟨by rw [← HBR.out]; simp [Flit.bare,h_seq],rfl⟩
  subst h_seq
  by_cases h_len : len = 0
  rotate_left
  ·
   have q_len : (len == 0) = false := beq_eq_false_iff_ne.2 h_len
   go_wp2_with fail
   all_goals go_meet
   all_goals exact ⟨by rw [← HBR.out]; simp [Flit.bare,h_len],rfl⟩
  subst h_len
  cases more
  rotate_left
  ·
   go_wp2_with fail
   all_goals go_meet
   all_goals exact ⟨by rw [← HBR.out]; simp [Flit.bare],rfl⟩
  cases cast
  rotate_left
  ·
   go_wp2_with fail
   all_goals go_meet
   all_goals exact ⟨by rw [← HBR.out]; simp [Flit.bare],rfl⟩
  go_wp2_with fail
  all_goals go_meet
  all_goals exact ⟨by rw [← HBR.out]; simp [Flit.bare],rfl⟩
 case rest =>
 obtain ⟨rfl,rfl⟩ := hcut
 by_cases hk : kind = 1
 ·
  have hr : r = (decide (data.size = 0) && nodeB src && nodeB dst && decide (0 ≤ seq) && decide (seq < 65536) && decide (0 ≤ len) && decide (len ≤ 64)) := by rw [← HB.out]; unfold Flit.right; rw [if_pos hk]
  have HR := Lib.hid hr
  subst hk
  clear hr
  by_cases hd : data.size = 0
  ·
   have hde := bytes_empty hd
   subst hde
   clear hd
   go_wp2_with fail
   refine (flit_node src _).mono ?_
   rintro e w2 ⟨rfl,rfl⟩
   generalize hs : nodeB src = bs
   have HS := Lib.hid hs
   clear hs
   cases bs with
   | false =>
    go_wp2
    go_ret
    exact ⟨by rw [HR.out,HS.out]; simp,m0⟩
   | true =>
    go_wp2_with fail
    refine (flit_node dst _).mono ?_
    rintro e w3 ⟨rfl,rfl⟩
    generalize hs : nodeB dst = bd
    have HD := Lib.hid hs
    clear hs
    cases bd with
    | false =>
     go_wp2
     go_ret
     exact ⟨by rw [HR.out,HD.out]; simp,m0⟩
    | true =>
     by_cases c1 : 0 ≤ seq
     ·
      by_cases c2 : seq < 65536
      ·
       by_cases c3 : 0 ≤ len
       ·
        by_cases c4 : len ≤ 64
        all_goals
         go_wp2
         go_ret
         exact ⟨by rw [HR.out,HS.out,HD.out]; (first | (simp [show ByteArray.size ⟨#[]⟩ = 0 from rfl]; done) | (simp [show ByteArray.size ⟨#[]⟩ = 0 from rfl]; omega) | (simp [show ByteArray.size ⟨#[]⟩ = 0 from rfl]; intros; omega)),m0⟩
       ·
        go_wp2
        go_ret
        exact ⟨by rw [HR.out]; (first | (simp; done) | (simp; intros; omega)),m0⟩
      ·
       go_wp2
       go_ret
       exact ⟨by rw [HR.out]; (first | (simp; done) | (simp; intros; omega)),m0⟩
     ·
      go_wp2
      go_ret
      exact ⟨by rw [HR.out]; (first | (simp; done) | (simp; intros; omega)),m0⟩
  ·
   have hde := bytes_full hd
   have q2 : decide (data = ⟨#[]⟩) = false := decide_eq_false hde
   have q3 : ¬ data.toList = [] := fun e => hde (list_inj0 e)
   go_wp2
   go_ret
   exact ⟨by rw [HR.out]; simp [hd],m0⟩
 ·
  have q0 : (kind == 1) = false := beq_eq_false_iff_ne.2 hk
  by_cases hk2 : kind = 2
  ·
   have hr : r = (br && decide (data.size = 6)) := by rw [← HB.out,← HBR.out]; unfold Flit.right; rw [if_neg hk,if_pos hk2]
   have HR := Lib.hid hr
   subst hk2
   clear hr hk q0
   cases br with
   | false =>
    go_wp2
    go_ret
    exact ⟨by rw [HR.out]; simp,m0⟩
   | true =>
    by_cases h6 : data.size = 6
    ·
     have q6 : ((data.size : Int) == 6) = true := by rw [h6]; rfl
     go_wp2
     go_ret
     exact ⟨by rw [HR.out]; simp [h6],m0⟩
    ·
     have q6 : ((data.size : Int) == 6) = false := by simp; omega
     go_wp2
     go_ret
     exact ⟨by rw [HR.out]; simp [h6],m0⟩
  ·
   have q02 : (kind == 2) = false := beq_eq_false_iff_ne.2 hk2
   have hr : r = (br && decide (kind = 3) && decide (data.size ≤ 6)) := by rw [← HB.out,← HBR.out]; unfold Flit.right; rw [if_neg hk,if_neg hk2]
   have HR := Lib.hid hr
   clear hr hk hk2
   cases br with
   | false =>
    go_wp2
    go_ret
    exact ⟨by rw [HR.out]; simp,m0⟩
   | true =>
    by_cases h3 : kind = 3
    ·
     subst h3
     by_cases h6 : (data.size : Int) ≤ 6
     ·
      have h6' : data.size ≤ 6 := by omega
      go_wp2
      go_ret
      exact ⟨by rw [HR.out]; simp [h6'],m0⟩
     ·
      have h6' : ¬ data.size ≤ 6 := by omega
      go_wp2
      go_ret
      exact ⟨by rw [HR.out]; simp [h6'],m0⟩
    ·
     have q3 : (kind == 3) = false := beq_eq_false_iff_ne.2 h3
     go_wp2
     go_ret
     exact ⟨by rw [HR.out]; simp [h3],m0⟩
open Go.RowKit
theorem wrap_u32_in (a : Int) (h : 0 ≤ a∧a < 4294967296) : IntKind.u32.wrap a = a := by
 rw [IntKind.wrap_u32]
 omega
def headF (f : Flit) : List (Nat × Nat) := [(2,1),(12,f.src.toNat),(12,f.dst.toNat),(16,f.seq.toNat),(7,f.len.toNat),(1,b01 f.more),(1,b01 f.cast)]
theorem headF_pack {f : Flit} (hk : f.kind = 1) : (packF (headF f)).1 = packN f := by
 unfold packN headF packF
 rw [if_pos hk]
 simp only [List.foldl_cons,List.foldl_nil]
 omega
theorem b01_lt (b : Bool) : b01 b < 2 := by cases b <;> decide
theorem head_bd {f : Flit} (hk : f.kind = 1) (h : f.right = true) : f.data = ⟨#[]⟩∧(0 ≤ f.src∧f.src < 4096)∧(0 ≤ f.dst∧f.dst < 4096)∧(0 ≤ f.seq∧f.seq < 65536)∧(0 ≤ f.len∧f.len ≤ 64) := by
 unfold Flit.right at h
 rw [if_pos hk] at h
 simp only [nodeB,Bool.and_eq_true,decide_eq_true_eq] at h
 exact ⟨bytes_empty (by omega),by omega,by omega,by omega,by omega⟩
theorem flit_write_head (f : Flit) (w : World) (hk : f.kind = 1) (hr : f.right = true) :
  Calls Tryz.prog 165 #[.agg f.cells] w fun e w' => e = .returned (.tuple #[.int .u64 ((wr f : Nat) : Int),.int .i64 0])∧Mod (fun _ => False) w w' := by
 have kb := Blk.made w f.cells 197
 have m0 : Mod (fun _ => False) w (w.alloc (.cells f.cells 197)) := (Mod.refl _ _).alloc _
 have HRT := Lib.hid (fun w => flit_right f w)
 rw [hr] at HRT
 obtain ⟨hdata,hsrc,hdst,hseq,hlen⟩ := head_bd hk hr
 have hpk := headF_pack hk
 have hfit : FitL 0 ((headF f).map (·.1)) := by simp [headF,FitL]
 have hval : ∀ q ∈ headF f,q.2 < 2 ^ q.1 := by
  have h1 := b01_lt f.more
  have h2 := b01_lt f.cast
  intro q hq
  simp only [headF,List.mem_cons,List.not_mem_nil,or_false] at hq
  rcases hq with rfl | rfl | rfl | rfl | rfl | rfl | rfl <;> dsimp only <;> omega
 have hlt : packN f < 2 ^ 64 := by
  rw [← hpk]
  have := packF_lt (headF f) hval 7
  rw [List.take_of_length_le (by simp [headF])] at this
  exact Nat.lt_of_lt_of_le this (by simp [headF,packF])
 have HPK := Lib.hid hpk
 have HFIT := Lib.hid hfit
 have HVAL := Lib.hid hval
 have HLT := Lib.hid hlt
 have hnv : natsU ((headF f).map (·.2)) = [.int .u32 1,.int .u32 f.src,.int .u32 f.dst,.int .u32 f.seq,.int .u32 f.len,.int .u32 ((b01 f.more : Nat) : Int),.int .u32 ((b01 f.cast : Nat) : Int)] := by
  simp [headF,natsU]
  omega
 have HNV := Lib.hid hnv
 have HW := Lib.hid (show sealN (packN f) = wr f from rfl)
 generalize wr f = W at HW ⊢
 simp only [Flit.cells] at kb m0 HRT ⊢
 rw [hk] at kb m0 HRT ⊢
 clear hr hpk hfit hval hlt hnv hdata hk
 go_enter Tryz.func165,Tryz.ntmps165
 go_wp2_with fail
 generalize w.alloc (.cells #[.int .i64 1,.int .i64 f.src,.int .i64 f.dst,.int .i64 f.seq,.int .i64 f.len,.bool f.more,.bool f.cast,.string f.data] 197) = w1 at kb m0 ⊢
 refine (HRT.out _).mono ?_
 rintro e w2 ⟨rfl,m2⟩
 have k2 := kb.later m2 (by simp)
 have mm2 := m0.trans m2 (by simp)
 clear kb m0 m2
 go_wp2_with fail
 refine (flit_head _).mono ?_
 rintro e w3 ⟨hd,rfl,hsl,m3⟩
 have k3 := k2.later m3 (by simp)
 have mm3 := mm2.trans m3 (by simp)
 obtain ⟨ha,hn,hc,rfl,-,-,-,-⟩ := id hsl
 have HSL := Lib.hid hsl
 clear k2 mm2 m3 hsl
 go_upto_region 4 with fail
 have k4 := k3.drew
 go_cut [5] (fun z w' => ∃ a n c,z = .slice a n c∧SlV w' z (natsU ((headF f).map (·.2)))∧Mod (fun _ => False) w3 w')
 case first =>
  go_region_held3 (fun w' => w'.cell? ⟨w.heap.size,0,none⟩ = some (.int .i64 1)∧w'.cell? ⟨w.heap.size,1,none⟩ = some (.int .i64 f.src)∧w'.cell? ⟨w.heap.size,2,none⟩ = some (.int .i64 f.dst)∧w'.cell? ⟨w.heap.size,3,none⟩ = some (.int .i64 f.seq)∧w'.cell? ⟨w.heap.size,4,none⟩ = some (.int .i64 f.len)∧w'.cell? ⟨w.heap.size,5,none⟩ = some (.bool f.more)∧w'.cell? ⟨w.heap.size,6,none⟩ = some (.bool f.cast))
   (first | exact ⟨k4.cell 0,k4.cell 1,k4.cell 2,k4.cell 3,k4.cell 4,k4.cell 5,k4.cell 6⟩ | exact ⟨(k4.alloc _).cell 0,(k4.alloc _).cell 1,(k4.alloc _).cell 2,(k4.alloc _).cell 3,(k4.alloc _).cell 4,(k4.alloc _).cell 5,(k4.alloc _).cell 6⟩ | go_keep)
   ((go_at_call 193; refine (flit_truth _ _).mono ?_; rintro e w9 ⟨rfl,rfl⟩))
  all_goals go_wp2_with fail
  all_goals go_meet
  all_goals
   refine ⟨_,_,_,rfl,?_,((Mod.refl _ _).alloc _).drew⟩
   rw [HNV.out,wrap_u32_in 1 (by decide),wrap_u32_in f.src (by omega),wrap_u32_in f.dst (by omega),wrap_u32_in f.seq (by omega),wrap_u32_in f.len (by omega)]
   exact (SlV.new 164 7 _ rfl 7 rfl).later ((Mod.refl (fun _ => False) _).drew) (by simp)
 case rest =>
  obtain ⟨va,vn,vc,rfl,hv,m5⟩ := hcut
  have k5 := k3.later m5 (by simp)
  have y0 := k5.cell 0
  simp at y0
  have hs5 := HSL.out.later m5 (by simp)
  have HP := Lib.hid (bits_pack _ _ (headF f) _ hs5 hv HFIT.out HVAL.out)
  have mm5 := mm3.trans m5 (by simp)
  rw [HPK.out] at HP
  clear hv hs5 k3 k4 m5 mm3 hsrc hdst hseq hlen
  go_wp2_with fail
  refine HP.out.mono ?_
  rintro e w6 ⟨rfl,d6⟩
  have mm6 := mm5.trans (d6.mod (fun _ => False)) (by simp)
  go_wp2_with fail
  refine (bits_seal (packN f) _ HLT.out).mono ?_
  rw [HW.out]
  rintro e w7 ⟨rfl,rfl⟩
  go_wp2
  go_ret2
  exact ⟨rfl,mm6⟩
open Go.RowKit
theorem flit_write_no (f : Flit) (w : World) (hr : f.right = false) :
  Calls Tryz.prog 165 #[.agg f.cells] w fun e w' => e = .returned (.tuple #[.int .u64 0,.int .i64 1])∧Mod (fun _ => False) w w' := by
 have kb := Blk.made w f.cells 197
 have m0 : Mod (fun _ => False) w (w.alloc (.cells f.cells 197)) := (Mod.refl _ _).alloc _
 have HRT := Lib.hid (fun w => flit_right f w)
 rw [hr] at HRT
 simp only [Flit.cells] at kb m0 HRT ⊢
 clear hr
 go_enter Tryz.func165,Tryz.ntmps165
 go_wp2_with fail
 generalize w.alloc (.cells #[.int .i64 f.kind,.int .i64 f.src,.int .i64 f.dst,.int .i64 f.seq,.int .i64 f.len,.bool f.more,.bool f.cast,.string f.data] 197) = w1 at kb m0 ⊢
 refine (HRT.out _).mono ?_
 rintro e w2 ⟨rfl,m2⟩
 have mm2 := m0.trans m2 (by simp)
 go_wp2
 go_ret2
 exact ⟨rfl,mm2⟩
def bodyF (k : Nat) (d : List UInt8) : List (Nat × Nat) := (2,k) :: (3,d.length) :: d.map fun b => (8,b.toNat)
theorem packF_tail (l : List UInt8) : ∀ x p : Nat,(l.map fun b => ((8,b.toNat) : Nat × Nat)).foldl (fun x q => (x.1 + q.2 * 2 ^ x.2,x.2 + q.1)) (x,p) = (x + dataN l * 2 ^ p,p + 8 * l.length) := by
 induction l with
 | nil => intro x p; simp [dataN]
 | cons b l ih =>
  intro x p
  rw [List.map_cons,List.foldl_cons,ih]
  have e : (2 : Nat) ^ (p + 8) = 256 * 2 ^ p := by rw [Nat.pow_add]; omega
  simp only [dataN,List.length_cons,e]
  refine Prod.ext ?_ ?_
  ·
   show x + b.toNat * 2 ^ p + dataN l * (256 * 2 ^ p) = x + (b.toNat + 256 * dataN l) * 2 ^ p
   rw [Nat.add_mul,← Nat.mul_assoc,Nat.mul_comm (dataN l) 256,Nat.add_assoc]
  ·
   show p + 8 + 8 * l.length = p + 8 * (l.length + 1)
   omega
theorem bodyF_pack {f : Flit} (hk : f.kind ≠ 1) : (packF (bodyF f.kind.toNat f.data.data.toList)).1 = packN f := by
 unfold packN bodyF packF
 rw [if_neg hk,List.foldl_cons,List.foldl_cons,packF_tail]
 have hl : f.data.data.toList.length = f.data.size := by rw [Array.length_toList]; rfl
 rw [hl]
 show 0 + f.kind.toNat * 2 ^ 0 + f.data.size * 2 ^ (0 + 2) + dataN f.data.data.toList * 2 ^ (0 + 2 + 3) = _
 omega
theorem body_bd {f : Flit} (hk : f.kind ≠ 1) (h : f.right = true) : (f.kind = 2∨f.kind = 3)∧f.data.size ≤ 6∧f.src = 0∧f.dst = 0∧f.seq = 0∧f.len = 0∧f.more = false∧f.cast = false := by
 unfold Flit.right at h
 rw [if_neg hk] at h
 by_cases h2 : f.kind = 2
 ·
  rw [if_pos h2] at h
  simp [Flit.bare] at h
  exact ⟨Or.inl h2,by omega,by simp [h],by simp [h],by simp [h],by simp [h],by simp [h],by simp [h]⟩
 ·
  rw [if_neg h2] at h
  simp [Flit.bare] at h
  exact ⟨Or.inr h.1.2,h.2,by simp [h],by simp [h],by simp [h],by simp [h],by simp [h],by simp [h]⟩
theorem bodyF_fit (k : Nat) (d : List UInt8) (hd : d.length ≤ 6) : FitL 0 ((bodyF k d).map (·.1)) := by
 have h : ∀ (l : List UInt8) (p : Nat),p + 8 * l.length ≤ 64→FitL p ((l.map fun b => ((8,b.toNat) : Nat × Nat)).map (·.1)) := by
  intro l
  induction l with
  | nil => intro p _; trivial
  | cons b l ih =>
   intro p hp
   simp only [List.length_cons] at hp
   exact ⟨by show 1 ≤ 8; omega,by show 8 ≤ 32; omega,by show p + 8 ≤ 64; omega,ih (p + 8) (by omega)⟩
 show 1 ≤ 2∧2 ≤ 32∧0 + 2 ≤ 64∧1 ≤ 3∧3 ≤ 32∧0 + 2 + 3 ≤ 64∧FitL (0 + 2 + 3) ((d.map fun b => ((8,b.toNat) : Nat × Nat)).map (·.1))
 exact ⟨by decide,by decide,by decide,by decide,by decide,by decide,h d _ (by omega)⟩
theorem bodyF_val (k : Nat) (d : List UInt8) (hk : k < 4) (hd : d.length ≤ 6) : ∀ q ∈ bodyF k d,q.2 < 2 ^ q.1 := by
 intro q hq
 unfold bodyF at hq
 rcases List.mem_cons.1 hq with rfl | hq
 ·
  exact hk
 ·
  rcases List.mem_cons.1 hq with rfl | hq
  ·
   show d.length < 2 ^ 3
   omega
  ·
   obtain ⟨b,-,rfl⟩ := List.mem_map.1 hq
   exact b.toNat_lt
open Go.RowKit
theorem bytes_made (d : ByteArray) (w : World) : ∃ w' cap,(convert 9 238 (.string d)).run Tryz.prog w = .ok (.slice (some ⟨w.heap.size,0,none⟩) d.size cap) w'∧(∀ j b,d.data.toList[j]? = some b→w'.cell? ⟨w.heap.size,j,none⟩ = some (.int .u8 (b.toNat : Int)))∧Mod (fun _ => False) w w'∧w.heap.size < w'.heap.size := by
 refine ⟨_,_,run_bytes_of_string w 9 238 5 d Tryz.underlying9 Tryz.underlying238 Tryz.underlying5,fun j b hj => ?_,(Mod.refl _ w).drew.alloc _,by simp⟩
 have hjl : j < d.data.size := by
  have := (List.getElem?_eq_some_iff.1 hj).1
  simpa using this
 have hh : ∀ o : Obj,(w.drew.alloc o).heap[w.heap.size]? = some o := fun o => by
  show (w.heap.push o)[w.heap.size]? = _
  simp
 simp only [World.cell?,hh,Option.isSome_none,Bool.false_eq_true,if_false]
 unfold bytesRow
 rw [Array.getElem?_append_left (by simpa using hjl),Array.getElem?_map]
 have : d.data[j]? = some b := by rw [← hj]; simp
 rw [this]
 rfl
theorem own_laterF {w w' : World} {base : Nat} {e : TypeId} {size : Nat} {v : Value} {n : Nat} {xs : List Value} (h : w.ownsRow base e size v n xs) {S : Nat→Prop} (m : Mod S w w') (hS : ∀ g,v.ownBlock = some g→¬ S g) : w'.ownsRow base e size v n xs := by
 refine ⟨h.1,?_⟩
 rcases h.2 with h2 | ⟨g,cap,cur,hv,hb,hh,r⟩
 ·
  exact Or.inl h2
 ·
  refine Or.inr ⟨g,cap,cur,hv,hb,?_,r⟩
  rw [m.block g (Array.getElem?_eq_some_iff.1 hh).1 (hS g (by rw [hv]; rfl))]
  exact hh
theorem info_intF : (Tryz.prog.info? 3).map (fun i => (i.zero,i.size,i.bytes)) = some (some (.int .i64 0),1,8) := by kernel_rfl
theorem own_baseF {w : World} {base base' : Nat} {e : TypeId} {size : Nat} {v : Value} {n : Nat} {xs : List Value} (h : w.ownsRow base e size v n xs) (hb : base' ≤ base) : w.ownsRow base' e size v n xs := by
 obtain ⟨h1,h2⟩ := h
 refine ⟨h1,?_⟩
 rcases h2 with h2 | ⟨g,cap,cur,hv,hg,r⟩
 ·
  exact Or.inl h2
 ·
  exact Or.inr ⟨g,cap,cur,hv,Nat.le_trans hb hg,r⟩
theorem flit_write_body (f : Flit) (w : World) (hk : f.kind ≠ 1) (hr : f.right = true) :
  Calls Tryz.prog 165 #[.agg f.cells] w fun e w' => e = .returned (.tuple #[.int .u64 ((wr f : Nat) : Int),.int .i64 0])∧Mod (fun _ => False) w w' := by
 have kb := Blk.made w f.cells 197
 have m0 : Mod (fun _ => False) w (w.alloc (.cells f.cells 197)) := (Mod.refl _ _).alloc _
 have HRT := Lib.hid (fun w => flit_right f w)
 rw [hr] at HRT
 obtain ⟨hk2,hsz,-⟩ := body_bd hk hr
 have HW := Lib.hid (show sealN (packN f) = wr f from rfl)
 have HPK := Lib.hid (bodyF_pack hk)
 generalize wr f = W at HW ⊢
 have q1 : (f.kind == 1) = false := beq_eq_false_iff_ne.2 hk
 have q2 : (f.kind != 1) = true := by rw [bne_iff_ne]; exact hk
 simp only [Flit.cells] at kb m0 HRT ⊢
 have HK := Lib.hid hk
 clear hr hk
 go_enter Tryz.func165,Tryz.ntmps165
 go_wp2_with fail
 generalize w.alloc (.cells #[.int .i64 f.kind,.int .i64 f.src,.int .i64 f.dst,.int .i64 f.seq,.int .i64 f.len,.bool f.more,.bool f.cast,.string f.data] 197) = w1 at kb m0 ⊢
 refine (HRT.out _).mono ?_
 rintro e w2 ⟨rfl,m2⟩
 have k2 := kb.later m2 (by simp)
 have mm2 := m0.trans m2 (by simp)
 clear kb m0 m2
 go_wp2_with fail
 refine (flit_head _).mono ?_
 rintro e w3 ⟨hd,rfl,hsl,m3⟩
 have k3 := k2.later m3 (by simp)
 have mm3 := mm2.trans m3 (by simp)
 obtain ⟨ha,hn,hc,rfl,-,-,-,-⟩ := id hsl
 clear k2 mm2 m3 hsl
 go_upto_region 4 with fail
 have k4 := k3.drew
 go_cut [5] (fun z w' => ∃ a n c,z = .slice a n c∧Mod (fun _ => False) w3 w')
 case first =>
  go_region_held3 (fun w' => w'.cell? ⟨w.heap.size,0,none⟩ = some (.int .i64 f.kind)∧w'.cell? ⟨w.heap.size,1,none⟩ = some (.int .i64 f.src)∧w'.cell? ⟨w.heap.size,2,none⟩ = some (.int .i64 f.dst)∧w'.cell? ⟨w.heap.size,3,none⟩ = some (.int .i64 f.seq)∧w'.cell? ⟨w.heap.size,4,none⟩ = some (.int .i64 f.len)∧w'.cell? ⟨w.heap.size,5,none⟩ = some (.bool f.more)∧w'.cell? ⟨w.heap.size,6,none⟩ = some (.bool f.cast))
   (first | exact ⟨k4.cell 0,k4.cell 1,k4.cell 2,k4.cell 3,k4.cell 4,k4.cell 5,k4.cell 6⟩ | exact ⟨(k4.alloc _).cell 0,(k4.alloc _).cell 1,(k4.alloc _).cell 2,(k4.alloc _).cell 3,(k4.alloc _).cell 4,(k4.alloc _).cell 5,(k4.alloc _).cell 6⟩ | go_keep)
   ((go_at_call 193; refine (flit_truth _ _).mono ?_; rintro e w9 ⟨rfl,rfl⟩))
  all_goals go_wp2_with fail
  all_goals go_meet
  all_goals exact ⟨_,_,_,rfl,((Mod.refl _ _).alloc _).drew⟩
 case rest =>
 obtain ⟨va,vn,vc,rfl,m5⟩ := hcut
 obtain ⟨w5,rfl⟩ : ∃ wo : World,wo = wc := ⟨_,rfl⟩
 have k5 := k3.later m5 (by simp)
 have mm5 := mm3.trans m5 (by simp)
 clear k3 k4 m5 mm3
 have y0 := k5.cell 0
 have y7 := k5.cell 7
 simp at y0 y7
 have l5 := k5.lt
 go_upto_region 6 with fail
 go_cut [4,5] (fun z z2 w' => ∃ g4 g5,z = .slice (some ⟨g4,0,none⟩) 2 2∧z2 = .slice (some ⟨g5,0,none⟩) 2 2∧g4 ≠ g5∧w'.ownsRow w5.heap.size 3 1 z 2 [.int .i64 2,.int .i64 3]∧w'.ownsRow w5.heap.size 164 1 z2 2 [.int .u32 f.kind,.int .u32 (f.data.size : Int)]∧Mod (fun _ => False) w5 w')
 case first =>
  go_region
  all_goals go_wp2_with fail
  all_goals go_meet
  ·
   refine ⟨w5.heap.size,w5.heap.size + 1,rfl,rfl,by omega,((World.ownsRow_lit w5 #[.int .i64 2,.int .i64 3] 2 (Nat.le_refl _) (by decide) rfl).alloc _).drew,?_,(((Mod.refl _ _).alloc _).alloc _).drew⟩
   have h := (World.ownsRow_lit (w5.alloc (.cells #[.int .i64 2,.int .i64 3] 3)) #[.int .u32 f.kind,.int .u32 (f.data.size : Int)] 2 (e := 164) (Nat.le_refl _) (by decide) rfl (size := 1)).drew
   simp only [World.size_alloc] at h
   exact own_baseF h (by omega)
  ·
   refine ⟨w5.heap.size + 1,w5.heap.size,rfl,rfl,by omega,?_,((World.ownsRow_lit w5 #[.int .u32 f.kind,.int .u32 (f.data.size : Int)] 2 (Nat.le_refl _) (by decide) rfl).alloc _).drew,(((Mod.refl _ _).alloc _).alloc _).drew⟩
   have h := (World.ownsRow_lit (w5.alloc (.cells #[.int .u32 f.kind,.int .u32 (f.data.size : Int)] 164)) #[.int .i64 2,.int .i64 3] 2 (e := 3) (Nat.le_refl _) (by decide) rfl (size := 1)).drew
   simp only [World.size_alloc] at h
   exact own_baseF h (by omega)
 case rest =>
 obtain ⟨g4,g5,rfl,rfl,hg,h4,h5,m6⟩ := hcut
 obtain ⟨w6,rfl⟩ : ∃ wo : World,wo = wc := ⟨_,rfl⟩
 have k6 := k5.later m6 (by simp)
 have mm6 := mm5.trans m6 (by simp)
 clear y0 y7
 have y7 := k6.cell 7
 simp at y7
 obtain ⟨w7,cap,hcv,hby,m7,l7⟩ := bytes_made f.data w6
 have hl : f.data.data.toList.length = f.data.size := by rw [Array.length_toList]; rfl
 obtain ⟨n,hn⟩ : ∃ n,f.data.size = n := ⟨_,rfl⟩
 have g46 : g4 ≠ w6.heap.size∧g5 ≠ w6.heap.size := by
  have := (h4.lt g4 rfl).2
  have := (h5.lt g5 rfl).2
  exact ⟨by omega,by omega⟩
 have h4 := own_laterF h4 m7 (by simp)
 have h5 := own_laterF h5 m7 (by simp)
 have s56 := m6.size
 have b4 := (h4.lt g4 rfl)
 have b5 := (h5.lt g5 rfl)
 have mm7 := mm6.trans m7 (by simp)
 have HBY := Lib.hid hby
 have HL := Lib.hid hl
 rw [hn] at hcv hsz
 have HN := Lib.hid hn
 clear hby hl hn
 have hn5 : ((f.data.size : Nat) : Int) = (n : Int) := by rw [HN.out]
 have hk0 : ((f.kind.toNat : Nat) : Int) = f.kind := by omega
 have HB5 := Lib.hid (show w7.ownsRow w5.heap.size 164 1 (.slice (some ⟨g5,0,none⟩) 2 2) 2 [.int .u32 ((f.kind.toNat : Nat) : Int),.int .u32 (n : Int)] by rw [hk0,← hn5]; exact h5)
 clear hn5 h5 hk0
 go_wp2
 go_loopw [4,5,52] (fun z4 z5 i wr => ∃ (k ga gb ca cb : Nat),k ≤ n∧i = .int .i64 (k : Int)∧z4 = .slice (some ⟨ga,0,none⟩) (2 + k) ca∧z5 = .slice (some ⟨gb,0,none⟩) (2 + k) cb∧ga ≠ gb∧ga ≠ w6.heap.size∧gb ≠ w6.heap.size ∧
  wr.ownsRow w5.heap.size 3 1 z4 (2 + k) (((natsI ((bodyF f.kind.toNat f.data.data.toList).map (·.1))).map (Value.int .i64)).take (2 + k)) ∧
  wr.ownsRow w5.heap.size 164 1 z5 (2 + k) ((natsU ((bodyF f.kind.toNat f.data.data.toList).map (·.2))).take (2 + k))∧Mod (fun q => w5.heap.size ≤ q∧q ≠ w6.heap.size) w7 wr) (fun _ _ i _ => n - (intOf i).toNat)
 case atStart => exact ⟨0,g4,g5,2,2,by omega,by simp,rfl,rfl,hg,g46.1,g46.2,by simpa [bodyF,natsI] using h4,by simpa [bodyF,natsU,HL.out,HN.out] using HB5.out,Mod.refl _ _⟩
 case round =>
  obtain ⟨k,ga,gb,ca,cb,hk',rfl,rfl,rfl,hab,ha6,hb6,hA,hB,hmod⟩ := hrel
  obtain ⟨wA,rfl⟩ : ∃ wo : World,wo = wr := ⟨_,rfl⟩
  have sA := hmod.size
  by_cases hlt : k < n
  ·
   obtain ⟨b,hb⟩ : ∃ b,f.data.data.toList[k]? = some b := ⟨_,List.getElem?_eq_getElem (by have := HL.out; have := HN.out; omega)⟩
   have d := (hmod.cell (p := ⟨w6.heap.size,k,none⟩) l7 (by simp)).trans (HBY.out k b hb)
   have e1 : ((natsI ((bodyF f.kind.toNat f.data.data.toList).map (·.1))).map (Value.int .i64)).take (2 + (k + 1)) = ((natsI ((bodyF f.kind.toNat f.data.data.toList).map (·.1))).map (Value.int .i64)).take (2 + k) ++ [.int .i64 8] := by
    rw [show 2 + (k + 1) = (2 + k) + 1 by omega,List.take_add_one]
    congr 1
    simp [bodyF,natsI,show 2 + k = k + 1 + 1 by omega,hb]
   have e2 : (natsU ((bodyF f.kind.toNat f.data.data.toList).map (·.2))).take (2 + (k + 1)) = (natsU ((bodyF f.kind.toNat f.data.data.toList).map (·.2))).take (2 + k) ++ [.int .u32 (b.toNat : Int)] := by
    rw [show 2 + (k + 1) = (2 + k) + 1 by omega,List.take_add_one]
    congr 1
    simp [bodyF,natsU,show 2 + k = k + 1 + 1 by omega,hb]
   have HE1 := Lib.hid e1
   have HE2 := Lib.hid e2
   generalize ((natsI ((bodyF f.kind.toNat f.data.data.toList).map (·.1))).map (Value.int .i64)).take (2 + k) = xa at hA HE1
   generalize (natsU ((bodyF f.kind.toNat f.data.data.toList).map (·.2))).take (2 + k) = xb at hB HE2
   have b0 : (0 : Int) ≤ (k : Int) := by omega
   have b1 : (k : Int) < (n : Int) := by omega
   have hbl := b.toNat_lt
   have lA := (hA.lt ga rfl)
   have lB := (hB.lt gb rfl)
   have hbs : w5.heap.size ≤ wA.heap.size := by omega
   have hn1 : 2 + k + 1 ≤ maxLen := by unfold maxLen; omega
   have hn2 : (2 + k + 1) * 8 ≤ 140737488355328 := by omega
   have hn3 : (2 + k + 1) * 4 ≤ 140737488355328 := by omega
   clear e1 e2 hb
   go_wp2_with (at_builtin; first
    | (refine wpList_appendE rfl _ _ 44 rfl w5.heap.size 3 (.int .i64 0) 1 8 Tryz.underlying44 info_intF rfl (by decide) (.slice (some ⟨ga,0,none⟩) (2 + k) ca) (2 + k) xa rfl hA #[_] rfl rfl (by simp [Value.oneCell']) hn1 hn2 hbs ?_; intro gA capA wz1 hA2 hmA hatA; have hB2 := own_laterF hB hmA (fun q hq e => hab (by have h1 : gb = q := (by simpa [Value.ownBlock] using hq); have h2 : ga = q := (by simpa [Value.ownBlock] using e); rw [h1,h2])))
    | (refine wpList_appendE rfl _ _ 237 rfl w5.heap.size 164 (.int .u32 0) 1 4 Tryz.underlying237 info_u32 rfl (by decide) (.slice (some ⟨gb,0,none⟩) (2 + k) cb) (2 + k) xb rfl hB2 #[_] rfl rfl (by simp [Value.oneCell']) hn1 hn3 (Nat.le_trans hbs hmA.size) ?_; intro gB capB wz2 hB3 hmB hatB))
   go_roundw
   case rel =>
    have hs1 := hmA.size
    have ca1 : ga = gA∨wA.heap.size < gA := hatA.imp (fun e => by simpa [Value.ownBlock] using e) id
    have cb1 : gb = gB∨wz1.heap.size < gB := hatB.imp (fun e => by simpa [Value.ownBlock] using e) id
    have lA2 := (hA2.lt gA rfl)
    refine ⟨k + 1,gA,gB,capA,capB,by omega,by go_num,rfl,rfl,by omega,by omega,by omega,?_,?_,?_⟩
    ·
     rw [HE1.out]
     exact own_laterF hA2 hmB (fun q hq e => by have h1 : gA = q := (by simpa [Value.ownBlock] using hq); have h2 : gb = q := (by simpa [Value.ownBlock] using e); omega)
    ·
     rw [HE2.out]
     exact hB3
    ·
     exact (hmod.trans hmA (fun i hi e => by have h2 : ga = i := (by simpa [Value.ownBlock] using e); omega)).trans hmB (fun i hi e => by have h2 : gb = i := (by simpa [Value.ownBlock] using e); omega)
   case measure => simp [intOf]; omega
  ·
   have hkn : k = n := by omega
   have hlen : f.data.data.toList.length = n := by rw [HL.out,HN.out]
   rw [List.take_of_length_le (by simp only [bodyF,natsI,List.length_map,List.length_cons]; omega)] at hA
   rw [List.take_of_length_le (by simp only [bodyF,natsU,List.length_map,List.length_cons]; omega)] at hB
   have hp := bits_pack _ _ (bodyF f.kind.toNat f.data.data.toList) wA (SlV.own hA) (SlV.own hB) (bodyF_fit _ _ (by omega)) (bodyF_val _ _ (by omega) (by omega))
   rw [HPK.out] at hp
   have HP := Lib.hid hp
   have hlt : packN f < 2 ^ 64 := by
    have hdl := dataN_lt f.data.data.toList
    have hpw : 256 ^ f.data.data.toList.length ≤ 2 ^ 48 := by
     rw [show (2 : Nat) ^ 48 = 256 ^ 6 from by decide]
     exact Nat.pow_le_pow_right (by decide) (by omega)
    unfold packN
    rw [if_neg HK.out]
    have := HN.out
    omega
   have HLT := Lib.hid hlt
   have mmA := mm7.trans hmod (fun i hi e => by have := mm5.size; omega)
   clear hp hlt hA hB hlen hkn
   go_wp2_with fail
   refine HP.out.mono ?_
   rintro e w8 ⟨rfl,d8⟩
   have mm8 := mmA.trans (d8.mod (fun _ => False)) (fun i hi e => e)
   go_wp2_with fail
   refine (bits_seal (packN f) _ HLT.out).mono ?_
   rw [HW.out]
   rintro e w9 ⟨rfl,rfl⟩
   go_wp2
   go_ret2
   exact ⟨rfl,mm8⟩
end Go.Proofs.YtfiklfkfbcpmgaaGreat
