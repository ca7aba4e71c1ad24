/- Two models beside one another; what each call makes of one. The plain law of ModelCasts. -/
import Derived.Test.YtonnooenebfbeaaMdlAt
import Derived.Test.YtonnooenebfbeaaObjs
namespace Go.Proofs.Ytonnooenebfbeaa
open Go.RowKit

def MX (b : Nat) (c : Cfg) (k : Nat) (s : MS) : World → (Nat → Prop) → Prop := fun w o => MdlAt w b c k s o
theorem MX.stable (b : Nat) (c : Cfg) (k : Nat) (s : MS) : Stable (MX b c k s) := ⟨fun h m hS => MdlAt.later h m hS, fun h hg => MdlAt.own_lt h hg⟩

abbrev Two (P : Nat → Prop) (w : World) (pa pb : Nat) (c : Cfg) (ka kb : Nat) (sa sb : MS) : Prop := Pair P (MX pa c ka sa) (MX pb c kb sb) w

section
variable {P : Nat → Prop} {w : World} {pa pb : Nat} {c : Cfg} {ka kb : Nat} {sa sb : MS}

theorem two_SendA (src dst : Int) (data : ByteArray) (h : Two P w pa pb c ka kb sa sb) (hk : ka ≤ 100000) (hdata : data.size ≤ 4294967295) (hB : 0 ≤ c.Bound ∧ c.Bound ≤ 16) :
    Calls Try.prog 11 #[.pointer (some ⟨pa, 0, none⟩), .int .i64 src, .int .i64 dst, .string data] w fun e w' =>
      e = .returned (.int .i64 (sa.sendE c src dst data)) ∧ Two P w' pa pb c (ka + 12) kb (sa.send c src dst data) sb ∧ Mod (fun g => ¬ P g) w w' := by
  obtain ⟨oa, ob, ha, hb, hd, hp⟩ := h
  refine (at_Send src dst data ha hk hdata hB).mono ?_
  rintro e w' ⟨o', he, hx, m, ho⟩
  exact ⟨he, Pair.left (MX.stable _ _ _ _) ha hb hd hp ⟨o', hx, m, ho⟩⟩
theorem two_SendB (src dst : Int) (data : ByteArray) (h : Two P w pa pb c ka kb sa sb) (hk : kb ≤ 100000) (hdata : data.size ≤ 4294967295) (hB : 0 ≤ c.Bound ∧ c.Bound ≤ 16) :
    Calls Try.prog 11 #[.pointer (some ⟨pb, 0, none⟩), .int .i64 src, .int .i64 dst, .string data] w fun e w' =>
      e = .returned (.int .i64 (sb.sendE c src dst data)) ∧ Two P w' pa pb c ka (kb + 12) sa (sb.send c src dst data) ∧ Mod (fun g => ¬ P g) w w' := by
  refine (two_SendA src dst data h.swap hk hdata hB).mono ?_
  rintro e w' ⟨he, h', m⟩
  exact ⟨he, h'.swap, m⟩
theorem two_CastA (src : Int) (v : Value) (set : List Int) (data : ByteArray) (h : Two P w pa pb c ka kb sa sb) (hk : ka ≤ 100000) (hs : SlV w v (set.map (Value.int .i64))) (hlen : set.length ≤ 12) (hdata : data.size ≤ 4294967295) (hB : 0 ≤ c.Bound ∧ c.Bound ≤ 16) (hsep : ∀ a n c, v = .slice (some a) n c → P a.block) :
    Calls Try.prog 18 #[.pointer (some ⟨pa, 0, none⟩), .int .i64 src, v, .string data] w fun e w' =>
      e = .returned (.int .i64 (sa.castE c src set data)) ∧ Two P w' pa pb c (ka + 12) kb (sa.cast c src set data) sb ∧ Mod (fun g => ¬ P g) w w' := by
  obtain ⟨oa, ob, ha, hb, hd, hp⟩ := h
  refine (at_Multicast src v set data ha hk hs hlen hdata hB (fun a n c hv => (hp _ (hsep a n c hv)).2.1)).mono ?_
  rintro e w' ⟨o', he, hx, m, ho⟩
  exact ⟨he, Pair.left (MX.stable _ _ _ _) ha hb hd hp ⟨o', hx, m, ho⟩⟩
theorem two_CastB (src : Int) (v : Value) (set : List Int) (data : ByteArray) (h : Two P w pa pb c ka kb sa sb) (hk : kb ≤ 100000) (hs : SlV w v (set.map (Value.int .i64))) (hlen : set.length ≤ 12) (hdata : data.size ≤ 4294967295) (hB : 0 ≤ c.Bound ∧ c.Bound ≤ 16) (hsep : ∀ a n c, v = .slice (some a) n c → P a.block) :
    Calls Try.prog 18 #[.pointer (some ⟨pb, 0, none⟩), .int .i64 src, v, .string data] w fun e w' =>
      e = .returned (.int .i64 (sb.castE c src set data)) ∧ Two P w' pa pb c ka (kb + 12) sa (sb.cast c src set data) ∧ Mod (fun g => ¬ P g) w w' := by
  refine (two_CastA src v set data h.swap hk hs hlen hdata hB hsep).mono ?_
  rintro e w' ⟨he, h', m⟩
  exact ⟨he, h'.swap, m⟩
theorem two_TookA (node src dst sq : Int) (data : ByteArray) (h : Two P w pa pb c ka kb sa sb) (hk : ka ≤ 100000) :
    Calls Try.prog 12 #[.pointer (some ⟨pa, 0, none⟩), .int .i64 node, .agg #[.int .i64 src, .int .i64 dst, .int .i64 sq, .string data]] w fun e w' =>
      e = .returned (.int .i64 (sa.tookE c node src dst data)) ∧ Two P w' pa pb c (ka + 12) kb (sa.took c node src dst data) sb ∧ Mod (fun g => ¬ P g) w w' := by
  obtain ⟨oa, ob, ha, hb, hd, hp⟩ := h
  refine (at_Took node src dst sq data ha hk).mono ?_
  rintro e w' ⟨o', he, hx, m, ho⟩
  exact ⟨he, Pair.left (MX.stable _ _ _ _) ha hb hd hp ⟨o', hx, m, ho⟩⟩
theorem two_TookB (node src dst sq : Int) (data : ByteArray) (h : Two P w pa pb c ka kb sa sb) (hk : kb ≤ 100000) :
    Calls Try.prog 12 #[.pointer (some ⟨pb, 0, none⟩), .int .i64 node, .agg #[.int .i64 src, .int .i64 dst, .int .i64 sq, .string data]] w fun e w' =>
      e = .returned (.int .i64 (sb.tookE c node src dst data)) ∧ Two P w' pa pb c ka (kb + 12) sa (sb.took c node src dst data) ∧ Mod (fun g => ¬ P g) w w' := by
  refine (two_TookA node src dst sq data h.swap hk).mono ?_
  rintro e w' ⟨he, h', m⟩
  exact ⟨he, h'.swap, m⟩
theorem two_CloseA (n : Int) (h : Two P w pa pb c ka kb sa sb) :
    Calls Try.prog 26 #[.pointer (some ⟨pa, 0, none⟩), .int .i64 n] w fun e w' =>
      e = .returned (.int .i64 (sa.may c n)) ∧ Two P w' pa pb c (ka + 12) kb (sa.close c n) sb ∧ Mod (fun g => ¬ P g) w w' := by
  obtain ⟨oa, ob, ha, hb, hd, hp⟩ := h
  refine (at_Close n ha).mono ?_
  rintro e w' ⟨o', he, hx, m, ho⟩
  exact ⟨he, Pair.left (MX.stable _ _ _ _) ha hb hd hp ⟨o', hx, m, ho⟩⟩
theorem two_CloseB (n : Int) (h : Two P w pa pb c ka kb sa sb) :
    Calls Try.prog 26 #[.pointer (some ⟨pb, 0, none⟩), .int .i64 n] w fun e w' =>
      e = .returned (.int .i64 (sb.may c n)) ∧ Two P w' pa pb c ka (kb + 12) sa (sb.close c n) ∧ Mod (fun g => ¬ P g) w w' := by
  refine (two_CloseA n h.swap).mono ?_
  rintro e w' ⟨he, h', m⟩
  exact ⟨he, h'.swap, m⟩
theorem two_QueueA (src dst : Int) (h : Two P w pa pb c ka kb sa sb) (hk : ka ≤ 100000) (hs : (Lit.int .i64 src).wf = true) (hd : (Lit.int .i64 dst).wf = true) :
    Calls Try.prog 21 #[.pointer (some ⟨pa, 0, none⟩), .int .i64 src, .int .i64 dst] w fun e w' => ∃ r, e = .returned r ∧ Two P w' pa pb c ka kb sa sb ∧ Mod (fun _ => False) w w' ∧ SlV w' r ((sa.Q src dst).map Value.string) := by
  have h1 := h
  obtain ⟨oa, ob, ha, hb, -, -⟩ := h
  refine (at_Queue src dst ha hk hs hd).mono ?_
  rintro e w' ⟨r, he, m, hr⟩
  exact ⟨r, he, h1.later (MX.stable _ _ _ _) (MX.stable _ _ _ _) m, m, hr⟩
theorem two_QueueB (src dst : Int) (h : Two P w pa pb c ka kb sa sb) (hk : kb ≤ 100000) (hs : (Lit.int .i64 src).wf = true) (hd : (Lit.int .i64 dst).wf = true) :
    Calls Try.prog 21 #[.pointer (some ⟨pb, 0, none⟩), .int .i64 src, .int .i64 dst] w fun e w' => ∃ r, e = .returned r ∧ Two P w' pa pb c ka kb sa sb ∧ Mod (fun _ => False) w w' ∧ SlV w' r ((sb.Q src dst).map Value.string) := by
  refine (two_QueueA src dst h.swap hk hs hd).mono ?_
  rintro e w' ⟨r, he, h', m, hr⟩
  exact ⟨r, he, h'.swap, m, hr⟩
theorem two_UnderA (n : Int) (h : Two P w pa pb c ka kb sa sb) :
    Calls Try.prog 13 #[.pointer (some ⟨pa, 0, none⟩), .int .i64 n] w fun e w' => e = .returned (.int .i64 (sa.under c n)) ∧ Two P w' pa pb c ka kb sa sb ∧ Mod (fun _ => False) w w' := by
  have h1 := h
  obtain ⟨oa, ob, ha, hb, -, -⟩ := h
  refine (at_Under n ha).mono ?_
  rintro e w' ⟨he, m⟩
  exact ⟨he, h1.later (MX.stable _ _ _ _) (MX.stable _ _ _ _) m, m⟩
theorem two_UnderB (n : Int) (h : Two P w pa pb c ka kb sa sb) :
    Calls Try.prog 13 #[.pointer (some ⟨pb, 0, none⟩), .int .i64 n] w fun e w' => e = .returned (.int .i64 (sb.under c n)) ∧ Two P w' pa pb c ka kb sa sb ∧ Mod (fun _ => False) w w' := by
  refine (two_UnderA n h.swap).mono ?_
  rintro e w' ⟨he, h', m⟩
  exact ⟨he, h'.swap, m⟩
theorem two_EmptyA (h : Two P w pa pb c ka kb sa sb) :
    Calls Try.prog 14 #[.pointer (some ⟨pa, 0, none⟩)] w fun e w' => e = .returned (.bool sa.empty) ∧ Two P w' pa pb c ka kb sa sb ∧ Mod (fun _ => False) w w' := by
  have h1 := h
  obtain ⟨oa, ob, ha, hb, -, -⟩ := h
  refine (at_Empty ha).mono ?_
  rintro e w' ⟨he, m⟩
  exact ⟨he, h1.later (MX.stable _ _ _ _) (MX.stable _ _ _ _) m, m⟩
theorem two_EmptyB (h : Two P w pa pb c ka kb sa sb) :
    Calls Try.prog 14 #[.pointer (some ⟨pb, 0, none⟩)] w fun e w' => e = .returned (.bool sb.empty) ∧ Two P w' pa pb c ka kb sa sb ∧ Mod (fun _ => False) w w' := by
  refine (two_EmptyA h.swap).mono ?_
  rintro e w' ⟨he, h', m⟩
  exact ⟨he, h'.swap, m⟩
end

/-- Two models opened, one behind the other. -/
theorem two_open {w w1 w2 : World} {pa pb : Nat} {c : Cfg} {sa sb : MS} {oa ob : Nat → Prop} (ha : MdlAt w1 pa c 0 sa oa) (la : ∀ g, oa g → w.heap.size ≤ g) (hb : MdlAt w2 pb c 0 sb ob) (lb : ∀ g, ob g → w1.heap.size ≤ g) (m1 : Mod (fun _ => False) w w1) (m2 : Mod (fun _ => False) w1 w2) :
    Two (fun g => g < w.heap.size) w2 pa pb c 0 0 sa sb :=
  ⟨oa, ob, ha.later m2 (by simp), hb, fun g hg hbg => by have := ha.own_lt hg; have := lb g hbg; omega, fun g hg => ⟨Nat.lt_of_lt_of_le hg (Nat.le_trans m1.size m2.size), fun h => by have := la g h; omega, fun h => by have := lb g h; have := m1.size; omega⟩⟩

/- ModelCasts, in numbers and lists alone. -/
theorem new_may {c : Cfg} (hc : c.Ok) {n : Int} (h : c.is n = true) : (MS.new c).may c n = 0 := by
  unfold MS.may mayE MS.new
  rw [if_pos h]
  dsimp only
  rw [if_neg]
  simp only [List.getD_eq_getElem?_getD, List.getElem?_replicate]
  split <;> simp

def MS.sends (c : Cfg) (s : MS) (src : Int) (d : ByteArray) (l : List Int) : MS := l.foldl (fun s t => s.send c src t d) s
theorem MS.sends_step (c : Cfg) (s : MS) (src : Int) (d : ByteArray) (l : List Int) (k : Nat) (t : Int) (h : l[k]? = some t) : s.sends c src d (l.take (k + 1)) = (s.sends c src d (l.take k)).send c src t d := by
  unfold MS.sends
  rw [List.take_add_one, h]
  simp

theorem set_getD {l : List Int} {n : Nat} {x : Int} (h : n < l.length) : (l.set n x).getD n 0 = x := by
  simp [List.getD_eq_getElem?_getD, List.getElem?_set, h]

/-- So many sendings are as one packet for several. -/
theorem MS.sends_is {c : Cfg} (hc : c.Ok) {src : Int} {d : ByteArray} (hs : c.is src = true) (hd : d.size ≤ 64) (l : List Int) (hl : ∀ t ∈ l, c.is t = true) (s : MS) (hm : s.may c src = 0) (hu : src.toNat < s.U.length) (hb : s.U.getD src.toNat 0 + l.length ≤ c.Bound) :
    s.sends c src d l = ⟨putQ s.Q src d l, if l = [] then s.U else s.U.set src.toNat (s.U.getD src.toNat 0 + l.length), s.C⟩ := by
  induction l generalizing s with
  | nil => rfl
  | cons t l ih =>
    have h1 : s.sendE c src t d = 0 := by
      unfold MS.sendE Go.Proofs.Ytonnooenebfbeaa.sendE
      rw [if_pos (hl t (by simp)), if_pos (show mayE c s.C src = 0 from hm), if_neg (by omega), if_neg (by rw [List.length_cons] at hb; omega)]
    have h2 : s.send c src t d = ⟨updQ s.Q src t (s.Q src t ++ [d]), s.U.set src.toNat (s.U.getD src.toNat 0 + 1), s.C⟩ := by
      unfold MS.send
      rw [if_pos h1]
    have e : s.sends c src d (t :: l) = (s.send c src t d).sends c src d l := rfl
    rw [e, ih (fun x hx => hl x (by simp [hx])) _ (by rw [h2]; exact hm) (by rw [h2]; simpa using hu) (by rw [h2]; dsimp only; rw [set_getD hu]; rw [List.length_cons] at hb; omega), h2]
    dsimp only
    rw [set_getD hu, List.set_set, if_neg (List.cons_ne_nil t l)]
    have e2 : putQ (updQ s.Q src t (s.Q src t ++ [d])) src d l = putQ s.Q src d (t :: l) := rfl
    rw [e2]
    have e3 : (if l = [] then s.U.set src.toNat (s.U.getD src.toNat 0 + 1) else s.U.set src.toNat (s.U.getD src.toNat 0 + 1 + (l.length : Int))) = s.U.set src.toNat (s.U.getD src.toNat 0 + ((t :: l).length : Int)) := by
      by_cases h0 : l = []
      · rw [if_pos h0, h0]
        rfl
      · rw [if_neg h0]
        congr 1
        rw [List.length_cons]
        omega
    rw [e3]

theorem getD_rep (n k : Nat) : (List.replicate n (0 : Int)).getD k 0 = 0 := by
  simp only [List.getD_eq_getElem?_getD, List.getElem?_replicate]
  split <;> rfl

theorem MS.sends_ok {c : Cfg} (hc : c.Ok) {src : Int} {d : ByteArray} (hs : c.is src = true) (hd : d.size ≤ 64) (l : List Int) (hl : ∀ t ∈ l, c.is t = true) (hb : (l.length : Int) ≤ c.Bound) (k : Nat) (t : Int) (h : l[k]? = some t) :
    ((MS.new c).sends c src d (l.take k)).sendE c src t d = 0 := by
  have hkl : k < l.length := (List.getElem?_eq_some_iff.1 h).1
  have hns := (c.is_iff src).1 hs
  have hul : src.toNat < (MS.new c).U.length := by simp [MS.new]; omega
  have h0 : (MS.new c).U.getD src.toNat 0 = 0 := getD_rep _ _
  rw [MS.sends_is hc hs hd (l.take k) (fun x hx => hl x (List.mem_of_mem_take hx)) _ (new_may hc hs) hul (by rw [h0]; simp; omega)]
  unfold MS.sendE Go.Proofs.Ytonnooenebfbeaa.sendE
  rw [if_pos (hl t (List.mem_of_getElem? h)), if_pos (show mayE c (MS.new c).C src = 0 from new_may hc hs), if_neg (by omega), if_neg]
  dsimp only
  split
  · rw [h0]; omega
  · rw [set_getD hul, h0]; simp; omega

theorem new_empty (c : Cfg) : (MS.new c).empty = true := by
  unfold MS.empty MS.new
  simp


/-- What a packet for several tells a new model. -/
theorem new_castE {c : Cfg} (hc : c.Ok) (hct : c.Cast = true) {src : Int} {d : ByteArray} (hs : c.is src = true) (hd : d.size ≤ 64) (l : List Int) (hl : ∀ t ∈ l, c.is t = true) (hn : l.Nodup) :
    (MS.new c).castE c src l d = if l = [] then 6 else if c.Bound < l.length then 7 else 0 := by
  unfold MS.castE Go.Proofs.Ytonnooenebfbeaa.castE
  rw [if_pos (show mayE c (MS.new c).C src = 0 from new_may hc hs), if_pos hct]
  by_cases h0 : l = []
  · rw [if_pos h0, if_neg]
    rintro ⟨h, -⟩
    exact h h0
  · rw [if_neg h0, if_pos (show castOk c src l from ⟨h0, hs, hl, hn⟩), if_neg (by omega)]
    congr 1
    unfold MS.new
    dsimp only
    rw [getD_rep]
    simp
theorem new_cast_same {c : Cfg} {src : Int} {d : ByteArray} {l : List Int} (h : (MS.new c).castE c src l d ≠ 0) : (MS.new c).cast c src l d = MS.new c := by
  unfold MS.cast
  rw [if_neg h]
theorem new_under {c : Cfg} (n : Int) : (MS.new c).under c n = 0 := by
  unfold MS.under underV MS.new
  dsimp only
  rw [getD_rep]
  simp
theorem new_cast_is {c : Cfg} (hc : c.Ok) {src : Int} {d : ByteArray} (hs : c.is src = true) (hd : d.size ≤ 64) {l : List Int} (h0 : l ≠ []) (hl : ∀ t ∈ l, c.is t = true) (hb : (l.length : Int) ≤ c.Bound) (h : (MS.new c).castE c src l d = 0) :
    (MS.new c).cast c src l d = (MS.new c).sends c src d l ∧ ((MS.new c).cast c src l d).under c src = l.length := by
  have hns := (c.is_iff src).1 hs
  have hul : src.toNat < (MS.new c).U.length := by simp [MS.new]; omega
  have h00 : (MS.new c).U.getD src.toNat 0 = 0 := getD_rep _ _
  have e : (MS.new c).cast c src l d = ⟨putQ (MS.new c).Q src d l, (MS.new c).U.set src.toNat ((MS.new c).U.getD src.toNat 0 + l.length), (MS.new c).C⟩ := by
    unfold MS.cast
    rw [if_pos h]
  refine ⟨?_, ?_⟩
  · rw [e, MS.sends_is hc hs hd l hl _ (new_may hc hs) hul (by rw [h00]; omega), if_neg h0]
  · rw [e]
    unfold MS.under underV
    rw [if_pos hs]
    dsimp only
    rw [set_getD hul, h00]
    omega

end Go.Proofs.Ytonnooenebfbeaa
