/- A model and the reference's, side by side: what both hold, and that each call answers alike. -/
import Derived.Test.YtonnooenebfbeaaR21D
import Derived.Test.YtonnooenebfbeaaDat
namespace Go.Proofs.Ytonnooenebfbeaa
open Go.RowKit

structure RS where
  L : List RP
  C : List Bool

def RS.send (c : Cfg) (r : RS) (src dst : Int) (d : ByteArray) : RS := if rsendE c r.L r.C src dst d.size = 0 then ⟨rput r.L src d [dst], r.C⟩ else r
def RS.cast (c : Cfg) (r : RS) (src : Int) (set : List Int) (d : ByteArray) : RS := if rcastE c r.L r.C src set d.size = 0 then ⟨rput r.L src d set, r.C⟩ else r
def RS.took (c : Cfg) (r : RS) (node src dst : Int) (d : ByteArray) : RS := if rtookE c r.L node src dst d = 0 then ⟨rtook r.L src node, r.C⟩ else r
def RS.close (c : Cfg) (r : RS) (n : Int) : RS := if rcloseE c r.C n = 0 then ⟨r.L, r.C.set n.toNat true⟩ else r
def RS.new (c : Cfg) : RS := ⟨[], List.replicate c.nodes.toNat false⟩

structure Rel (c : Cfg) (s : MS) (r : RS) : Prop where
  cl : s.C = r.C
  q : ∀ a b, s.Q a b = qOf r.L a b
  u : ∀ a, c.is a = true → s.U.getD a.toNat 0 = (uOf r.L a : Int)
  is : ∀ p ∈ r.L, c.is p.1 = true
  ul : (s.U.length : Int) = c.nodes

theorem rel_new (c : Cfg) : Rel c (MS.new c) (RS.new c) := by
  have := c.nodes_bd
  refine ⟨rfl, fun _ _ => rfl, fun a _ => ?_, by simp [RS.new], by simp [MS.new]; omega⟩
  show (List.replicate c.nodes.toNat (0 : Int)).getD a.toNat 0 = _
  rw [getD_rep]
  rfl

section
variable {c : Cfg} {s : MS} {r : RS}

theorem rel_sendE (h : Rel c s r) (src dst : Int) (d : ByteArray) : s.sendE c src dst d = rsendE c r.L r.C src dst d.size := by
  unfold MS.sendE Go.Proofs.Ytonnooenebfbeaa.sendE rsendE mayE rputE
  rw [h.cl]
  by_cases h1 : c.is src = true
  · rw [h.u src h1]
    generalize r.C.getD src.toNat false = b3
    by_cases h2 : c.is dst = true <;> cases b3 <;> simp [h1, h2]
  · by_cases h2 : c.is dst = true <;> simp [h1, h2]
theorem rel_castE (h : Rel c s r) (src : Int) (set : List Int) (d : ByteArray) : s.castE c src set d = rcastE c r.L r.C src set d.size := by
  unfold MS.castE Go.Proofs.Ytonnooenebfbeaa.castE rcastE mayE rputE
  rw [h.cl]
  by_cases h1 : c.is src = true
  · rw [h.u src h1]
    generalize r.C.getD src.toNat false = b3
    cases b3 <;> simp [h1]
  · simp [h1]
theorem rel_tookE (h : Rel c s r) (node src dst : Int) (d : ByteArray) : s.tookE c node src dst d = rtookE c r.L node src dst d := by
  unfold MS.tookE Go.Proofs.Ytonnooenebfbeaa.tookE rtookE
  rw [h.q]
theorem rel_closeE (h : Rel c s r) (n : Int) : s.may c n = rcloseE c r.C n := by
  unfold MS.may mayE rcloseE
  rw [h.cl]

theorem qOf_app (L M : List RP) (a b : Int) : qOf (L ++ M) a b = qOf L a b ++ qOf M a b := by simp [qOf]
theorem uOf_app (L M : List RP) (a : Int) : uOf (L ++ M) a = uOf L a + uOf M a := by simp [uOf]
theorem uOf_sent (src : Int) (d : ByteArray) (ts : List Int) (a : Int) : uOf (ts.map fun t => (src, t, d)) a = if a = src then ts.length else 0 := by
  unfold uOf
  rw [List.countP_map]
  by_cases h : a = src
  · rw [if_pos h]
    subst h
    rw [List.countP_eq_length.2]
    intro t _
    simp
  · rw [if_neg h, List.countP_eq_zero.2]
    intro t _
    simp
    exact fun e => h e.symm
theorem putQ_app (Q : Int → Int → List ByteArray) (src : Int) (d : ByteArray) (ts : List Int) (a b : Int) : putQ Q src d ts a b = Q a b ++ qOf (ts.map fun t => (src, t, d)) a b := by
  induction ts generalizing Q with
  | nil => simp [putQ, qOf]
  | cons t ts ih =>
    have e : putQ Q src d (t :: ts) = putQ (updQ Q src t (Q src t ++ [d])) src d ts := rfl
    rw [e, ih, List.map_cons, show ((src, t, d) :: ts.map fun t => (src, t, d)) = [(src, t, d)] ++ ts.map fun t => (src, t, d) from rfl, qOf_app, ← List.append_assoc]
    congr 1
    unfold updQ
    by_cases h : a = src ∧ b = t
    · rw [if_pos h, h.1, h.2]
      simp [qOf]
    · rw [if_neg h]
      have : qOf [(src, t, d)] a b = [] := by
        simp only [qOf, List.filter_cons, List.filter_nil]
        rw [if_neg]
        · rfl
        · simp
          exact fun e1 e2 => h ⟨e1.symm, e2.symm⟩
      rw [this, List.append_nil]

theorem rel_put (h : Rel c s r) (src : Int) (d : ByteArray) (ts : List Int) (hs : c.is src = true) : Rel c ⟨putQ s.Q src d ts, s.U.set src.toNat (s.U.getD src.toNat 0 + ts.length), s.C⟩ ⟨rput r.L src d ts, r.C⟩ := by
  refine ⟨h.cl, fun a b => ?_, fun a ha => ?_, fun p hp => ?_, by simpa using h.ul⟩
  · show putQ s.Q src d ts a b = qOf (rput r.L src d ts) a b
    rw [putQ_app, h.q]
    unfold rput
    rw [qOf_app]
  · show (s.U.set src.toNat (s.U.getD src.toNat 0 + ts.length)).getD a.toNat 0 = ((uOf (rput r.L src d ts) a : Nat) : Int)
    unfold rput
    rw [uOf_app, uOf_sent]
    have h1 := (c.is_iff a).1 ha
    have h2 := (c.is_iff src).1 hs
    have hul := h.ul
    by_cases e : a = src
    · subst e
      rw [if_pos rfl, set_getD (by omega), h.u a ha]
      omega
    · rw [if_neg e]
      simp only [List.getD_eq_getElem?_getD]
      rw [List.getElem?_set_ne (by omega), ← List.getD_eq_getElem?_getD, h.u a ha]
      simp
  · show c.is p.1 = true
    have hp : p ∈ rput r.L src d ts := hp
    unfold rput at hp
    rcases List.mem_append.1 hp with hp | hp
    · exact h.is p hp
    · obtain ⟨t, -, rfl⟩ := List.mem_map.1 hp
      exact hs

theorem rsendE_is {L : List RP} {C : List Bool} {src dst : Int} {n : Nat} (h : rsendE c L C src dst n = 0) : c.is src = true := by
  unfold rsendE at h
  split at h
  · rename_i h1
    exact h1.1
  · contradiction
theorem rcastE_is {L : List RP} {C : List Bool} {src : Int} {set : List Int} {n : Nat} (h : rcastE c L C src set n = 0) : c.is src = true := by
  unfold rcastE at h
  split at h
  · assumption
  · contradiction

theorem rel_send (h : Rel c s r) (src dst : Int) (d : ByteArray) : Rel c (s.send c src dst d) (r.send c src dst d) := by
  unfold MS.send RS.send
  rw [rel_sendE h]
  split
  · rename_i h0
    exact rel_put h src d [dst] (rsendE_is h0)
  · exact h
theorem rel_cast (h : Rel c s r) (src : Int) (set : List Int) (d : ByteArray) : Rel c (s.cast c src set d) (r.cast c src set d) := by
  unfold MS.cast RS.cast
  rw [rel_castE h]
  split
  · rename_i h0
    exact rel_put h src d set (rcastE_is h0)
  · exact h
theorem rel_close (h : Rel c s r) (n : Int) : Rel c (s.close c n) (r.close c n) := by
  unfold MS.close RS.close
  rw [rel_closeE h]
  split
  · exact ⟨by show s.C.set _ _ = r.C.set _ _; rw [h.cl], h.q, h.u, h.is, h.ul⟩
  · exact h

theorem eraseP_split {L : List RP} {f : RP → Bool} (h : ∃ p ∈ L, f p = true) : ∃ A p B, L = A ++ p :: B ∧ (∀ q ∈ A, f q = false) ∧ f p = true ∧ L.eraseP f = A ++ B := by
  obtain ⟨p, hp, hf⟩ := h
  obtain ⟨q, A, B, h1, h2, h3, h4⟩ := List.exists_of_eraseP hp hf
  exact ⟨A, q, B, h3, fun x hx => by simpa using h1 x hx, h2, h4⟩

theorem rel_took (h : Rel c s r) (node src dst : Int) (d : ByteArray) : Rel c (s.took c node src dst d) (r.took c node src dst d) := by
  unfold MS.took RS.took
  rw [rel_tookE h]
  split
  · rename_i h0
    have hq : ∃ p ∈ r.L, isOf src node p = true := by
      unfold rtookE at h0
      split at h0
      · split at h0
        · rename_i h1
          have h2 := h1.2
          cases hl : qOf r.L src node with
          | nil => rw [hl] at h2; simp at h2
          | cons x xs =>
            have : x ∈ qOf r.L src node := by rw [hl]; simp
            unfold qOf at this
            obtain ⟨p, hp, -⟩ := List.mem_map.1 this
            rw [List.mem_filter] at hp
            exact ⟨p, hp.1, hp.2⟩
        · contradiction
      · contradiction
    obtain ⟨A, p, B, e, hA, hp, he⟩ := eraseP_split hq
    have hp2 : p.1 = src ∧ p.2.1 = node := by simpa [isOf] using hp
    have his : c.is src = true := by
      have := h.is p (by rw [e]; simp)
      rw [hp2.1] at this
      exact this
    have hQ : ∀ a b, qOf r.L a b = qOf A a b ++ (qOf [p] a b ++ qOf B a b) := fun a b => by
      rw [e, show A ++ p :: B = A ++ ([p] ++ B) by simp, qOf_app, qOf_app]
    have hU : ∀ a, uOf r.L a = uOf A a + (uOf [p] a + uOf B a) := fun a => by
      rw [e, show A ++ p :: B = A ++ ([p] ++ B) by simp, uOf_app, uOf_app]
    have hA0 : qOf A src node = [] := by
      unfold qOf
      rw [List.map_eq_nil_iff, List.filter_eq_nil_iff]
      intro q hq h2
      have := hA q hq
      rw [show isOf src node q = (decide (q.1 = src) && decide (q.2.1 = node)) from rfl, h2] at this
      cases this
    refine ⟨h.cl, fun a b => ?_, fun a ha => ?_, fun q hq => ?_, by simpa using h.ul⟩
    · show updQ s.Q src node (s.Q src node).tail a b = qOf (rtook r.L src node) a b
      unfold rtook
      rw [he, qOf_app]
      unfold updQ
      by_cases hab : a = src ∧ b = node
      · rw [if_pos hab, hab.1, hab.2, h.q, hQ, hA0]
        simp [qOf, hp2]
      · rw [if_neg hab, h.q, hQ]
        have : qOf [p] a b = [] := by
          simp only [qOf, List.filter_cons, List.filter_nil]
          rw [if_neg]
          · rfl
          · simp [hp2]
            exact fun e1 e2 => hab ⟨e1.symm, e2.symm⟩
        rw [this, List.nil_append]
    · show (s.U.set src.toNat (s.U.getD src.toNat 0 - 1)).getD a.toNat 0 = ((uOf (rtook r.L src node) a : Nat) : Int)
      unfold rtook
      rw [he, uOf_app]
      have h1 := (c.is_iff a).1 ha
      have h2 := (c.is_iff src).1 his
      have hul := h.ul
      have hua := hU a
      by_cases e : a = src
      · subst e
        have hp1 : uOf [p] a = 1 := by simp [uOf, hp2]
        rw [set_getD (by omega), h.u a ha]
        omega
      · have hp1 : uOf [p] a = 0 := by simp [uOf, hp2]; exact fun h => e h.symm
        simp only [List.getD_eq_getElem?_getD]
        rw [List.getElem?_set_ne (by omega), ← List.getD_eq_getElem?_getD, h.u a ha]
        omega
    · have hq : q ∈ rtook r.L src node := hq
      unfold rtook at hq
      exact h.is q (List.mem_of_mem_eraseP hq)
  · exact h

theorem rel_under (h : Rel c s r) (a : Int) : s.under c a = (uOf r.L a : Int) := by
  unfold MS.under underV
  by_cases ha : c.is a = true
  · rw [if_pos ha, h.u a ha]
  · rw [if_neg ha]
    have : uOf r.L a = 0 := by
      unfold uOf
      rw [List.countP_eq_zero]
      intro p hp e
      have := h.is p hp
      simp at e
      rw [e] at this
      exact ha this
    rw [this]
    rfl
theorem rel_empty (h : Rel c s r) : s.empty = decide (r.L.length = 0) := by
  have hul := h.ul
  unfold MS.empty
  cases hl : r.L with
  | nil =>
    have : (s.U.any fun n => decide (0 < n)) = false := by
      rw [List.any_eq_false]
      intro u hu
      obtain ⟨j, hj, rfl⟩ := List.getElem_of_mem hu
      have hj2 : c.is (j : Int) = true := (c.is_iff _).2 ⟨by omega, by omega⟩
      have := h.u j hj2
      rw [hl] at this
      simp only [Int.toNat_natCast, List.getD_eq_getElem?_getD, List.getElem?_eq_getElem hj, Option.getD_some] at this
      rw [this]
      simp [uOf]
    rw [this]
    rfl
  | cons p L =>
    have : (s.U.any fun n => decide (0 < n)) = true := by
      rw [List.any_eq_true]
      have hp := h.is p (by rw [hl]; simp)
      have h1 := (c.is_iff _).1 hp
      have h2 := h.u p.1 hp
      rw [hl] at h2
      have h3 : 0 < uOf (p :: L) p.1 := by simp [uOf]
      have hj : p.1.toNat < s.U.length := by omega
      refine ⟨s.U[p.1.toNat], List.getElem_mem hj, ?_⟩
      simp only [List.getD_eq_getElem?_getD, List.getElem?_eq_getElem hj, Option.getD_some] at h2
      rw [h2]
      simp
      omega
    rw [this]
    rfl
end

/- The two in memory. -/
def RX (b : Nat) (c : Cfg) (k : Nat) (r : RS) : World → (Nat → Prop) → Prop := fun w o => ∃ bc v, RefIn w b bc v c k r.L r.C ∧ o = own3 b bc v
theorem RX.stable (b : Nat) (c : Cfg) (k : Nat) (r : RS) : Stable (RX b c k r) :=
  ⟨fun h m hS => by obtain ⟨bc, v, h, rfl⟩ := h; exact ⟨bc, v, h.later m hS, rfl⟩, fun h hg => by obtain ⟨bc, v, h, rfl⟩ := h; exact h.own_lt hg⟩

abbrev Duo (P : Nat → Prop) (w : World) (pa pb : Nat) (c : Cfg) (k : Nat) (s : MS) (r : RS) : Prop := Pair P (MX pa c k s) (RX pb c k r) w

theorem duo_mono {P : Nat → Prop} {w : World} {pa pb : Nat} {c : Cfg} {ka kb k : Nat} {s : MS} {r : RS} (h : Pair P (MX pa c ka s) (RX pb c kb r) w) (h1 : ka ≤ k) (h2 : kb ≤ k) : Duo P w pa pb c k s r := by
  obtain ⟨oa, ob, ha, ⟨bc, v, hb, e⟩, q⟩ := h
  exact ⟨oa, ob, ha.mono h1, ⟨bc, v, hb.mono h2, e⟩, q⟩
theorem duo_drew {P : Nat → Prop} {w : World} {pa pb : Nat} {c : Cfg} {ka kb : Nat} {s : MS} {r : RS} (h : Pair P (MX pa c ka s) (RX pb c kb r) w) : Pair P (MX pa c ka s) (RX pb c kb r) w.drew :=
  h.later (MX.stable _ _ _ _) (RX.stable _ _ _ _) ((Mod.refl _ _).drew)

section
variable {P : Nat → Prop} {w : World} {pa pb : Nat} {c : Cfg} {ka kb : Nat} {s : MS} {r : RS}

theorem duo_SendA (src dst : Int) (data : ByteArray) (h : Pair P (MX pa c ka s) (RX pb c kb r) w) (hk : ka ≤ 100000) (hdata : data.size ≤ 4294967295) (hB : 0 ≤ c.Bound ∧ c.Bound ≤ 16) :
    Calls Try.prog 11 #[.pointer (some ⟨pa, 0, none⟩), .int .i64 src, .int .i64 dst, .string data] w fun e w' =>
      e = .returned (.int .i64 (s.sendE c src dst data)) ∧ Pair P (MX pa c (ka + 12) (s.send c src dst data)) (RX pb c kb r) w' ∧ Mod (fun g => ¬ P g) w w' := by
  obtain ⟨oa, ob, ha, hb, hd, hp⟩ := h
  refine (at_Send src dst data ha hk hdata hB).mono ?_
  rintro e w' ⟨o', he, hx, m, ho⟩
  exact ⟨he, Pair.left (RX.stable _ _ _ _) ha hb hd hp ⟨o', hx, m, ho⟩⟩
theorem duo_CastA (src : Int) (v : Value) (set : List Int) (data : ByteArray) (h : Pair P (MX pa c ka s) (RX pb c kb r) w) (hk : ka ≤ 100000) (hs : SlV w v (set.map (Value.int .i64))) (hlen : set.length ≤ 12) (hdata : data.size ≤ 4294967295) (hB : 0 ≤ c.Bound ∧ c.Bound ≤ 16) (hsep : ∀ a n c, v = .slice (some a) n c → P a.block) :
    Calls Try.prog 18 #[.pointer (some ⟨pa, 0, none⟩), .int .i64 src, v, .string data] w fun e w' =>
      e = .returned (.int .i64 (s.castE c src set data)) ∧ Pair P (MX pa c (ka + 12) (s.cast c src set data)) (RX pb c kb r) w' ∧ Mod (fun g => ¬ P g) w w' := by
  obtain ⟨oa, ob, ha, hb, hd, hp⟩ := h
  refine (at_Multicast src v set data ha hk hs hlen hdata hB (fun a n c hv => (hp _ (hsep a n c hv)).2.1)).mono ?_
  rintro e w' ⟨o', he, hx, m, ho⟩
  exact ⟨he, Pair.left (RX.stable _ _ _ _) ha hb hd hp ⟨o', hx, m, ho⟩⟩
theorem duo_TookA (node src dst sq : Int) (data : ByteArray) (h : Pair P (MX pa c ka s) (RX pb c kb r) w) (hk : ka ≤ 100000) :
    Calls Try.prog 12 #[.pointer (some ⟨pa, 0, none⟩), .int .i64 node, .agg #[.int .i64 src, .int .i64 dst, .int .i64 sq, .string data]] w fun e w' =>
      e = .returned (.int .i64 (s.tookE c node src dst data)) ∧ Pair P (MX pa c (ka + 12) (s.took c node src dst data)) (RX pb c kb r) w' ∧ Mod (fun g => ¬ P g) w w' := by
  obtain ⟨oa, ob, ha, hb, hd, hp⟩ := h
  refine (at_Took node src dst sq data ha hk).mono ?_
  rintro e w' ⟨o', he, hx, m, ho⟩
  exact ⟨he, Pair.left (RX.stable _ _ _ _) ha hb hd hp ⟨o', hx, m, ho⟩⟩
theorem duo_CloseA (n : Int) (h : Pair P (MX pa c ka s) (RX pb c kb r) w) :
    Calls Try.prog 26 #[.pointer (some ⟨pa, 0, none⟩), .int .i64 n] w fun e w' =>
      e = .returned (.int .i64 (s.may c n)) ∧ Pair P (MX pa c (ka + 12) (s.close c n)) (RX pb c kb r) w' ∧ Mod (fun g => ¬ P g) w w' := by
  obtain ⟨oa, ob, ha, hb, hd, hp⟩ := h
  refine (at_Close n ha).mono ?_
  rintro e w' ⟨o', he, hx, m, ho⟩
  exact ⟨he, Pair.left (RX.stable _ _ _ _) ha hb hd hp ⟨o', hx, m, ho⟩⟩

theorem duo_right {oa ob : Nat → Prop} {w' : World} (ha : MX pa c ka s w oa) (hb : RX pb c kb r w ob) (hd : ∀ g, oa g → ¬ ob g) (hp : ∀ g, P g → g < w.heap.size ∧ ¬ oa g ∧ ¬ ob g) {k' : Nat} {r' : RS} (t : Turn ob (RX pb c k' r') w w') :
    Pair P (MX pa c ka s) (RX pb c k' r') w' ∧ Mod (fun g => ¬ P g) w w' := by
  have := Pair.left (P := P) (MX.stable pa c ka s) hb ha (fun g hg h2 => hd g h2 hg) (fun g hg => ⟨(hp g hg).1, (hp g hg).2.2, (hp g hg).2.1⟩) t
  exact ⟨this.1.swap, this.2⟩

theorem duo_SendB (src dst : Int) (d : ByteArray) (h : Pair P (MX pa c ka s) (RX pb c kb r) w) (hk : kb ≤ 100000) (hdata : d.size ≤ 4294967295) (hB : 0 ≤ c.Bound ∧ c.Bound ≤ 16) :
    Calls Try.prog 24 #[.pointer (some ⟨pb, 0, none⟩), .int .i64 src, .int .i64 dst, .string d] w fun e w' =>
      e = .returned (.int .i64 (rsendE c r.L r.C src dst d.size)) ∧ Pair P (MX pa c ka s) (RX pb c (kb + 12) (r.send c src dst d)) w' ∧ Mod (fun g => ¬ P g) w w' := by
  obtain ⟨oa, ob, ha, hb, hd, hp⟩ := h
  obtain ⟨bc, v, hb', rfl⟩ := id hb
  refine (run_RSend src dst d hb' hk hdata hB).mono ?_
  rintro e w' ⟨he, ho⟩
  refine ⟨he, duo_right ha hb hd hp ?_⟩
  unfold RS.send
  rcases ho with ⟨h0, m⟩ | ⟨h0, m, v', hR, ho⟩
  · rw [if_neg h0]
    exact ⟨_, ⟨bc, v, (hb'.later m (by simp)).mono (by omega), rfl⟩, m.mono (fun _ _ e => e.elim), fun g hg => Or.inl hg⟩
  · rw [if_pos h0]
    exact ⟨_, ⟨bc, v', hR.mono (by omega), rfl⟩, m, ho⟩
theorem duo_CastB (src : Int) (u : Value) (set : List Int) (d : ByteArray) (h : Pair P (MX pa c ka s) (RX pb c kb r) w) (hk : kb ≤ 100000) (hs : SlV w u (set.map (Value.int .i64))) (hlen : set.length ≤ 12) (hdata : d.size ≤ 4294967295) (hB : 0 ≤ c.Bound ∧ c.Bound ≤ 16) (hsep : ∀ a n c, u = .slice (some a) n c → P a.block) :
    Calls Try.prog 25 #[.pointer (some ⟨pb, 0, none⟩), .int .i64 src, u, .string d] w fun e w' =>
      e = .returned (.int .i64 (rcastE c r.L r.C src set d.size)) ∧ Pair P (MX pa c ka s) (RX pb c (kb + 12) (r.cast c src set d)) w' ∧ Mod (fun g => ¬ P g) w w' := by
  obtain ⟨oa, ob, ha, hb, hd, hp⟩ := h
  obtain ⟨bc, v, hb', rfl⟩ := id hb
  refine (run_RCast src u set d hb' hk hs hlen hdata hB (fun a n c hv => (hp _ (hsep a n c hv)).2.2)).mono ?_
  rintro e w' ⟨he, ho⟩
  refine ⟨he, duo_right ha hb hd hp ?_⟩
  unfold RS.cast
  rcases ho with ⟨h0, m⟩ | ⟨h0, m, v', hR, ho⟩
  · rw [if_neg h0]
    exact ⟨_, ⟨bc, v, (hb'.later m (by simp)).mono (by omega), rfl⟩, m.mono (fun _ _ e => e.elim), fun g hg => Or.inl hg⟩
  · rw [if_pos h0]
    exact ⟨_, ⟨bc, v', hR.mono (by omega), rfl⟩, m, ho⟩
theorem duo_TookB (node src dst sq : Int) (d : ByteArray) (h : Pair P (MX pa c ka s) (RX pb c kb r) w) (hk : kb ≤ 100000) :
    Calls Try.prog 29 #[.pointer (some ⟨pb, 0, none⟩), .int .i64 node, .agg #[.int .i64 src, .int .i64 dst, .int .i64 sq, .string d]] w fun e w' =>
      e = .returned (.int .i64 (rtookE c r.L node src dst d)) ∧ Pair P (MX pa c ka s) (RX pb c (kb + 12) (r.took c node src dst d)) w' ∧ Mod (fun g => ¬ P g) w w' := by
  obtain ⟨oa, ob, ha, hb, hd, hp⟩ := h
  obtain ⟨bc, v, hb', rfl⟩ := id hb
  refine (run_RTook node src dst sq d hb' hk).mono ?_
  rintro e w' ⟨he, ho⟩
  refine ⟨he, duo_right ha hb hd hp ?_⟩
  unfold RS.took
  rcases ho with ⟨h0, m⟩ | ⟨h0, m, v', hR, ho⟩
  · rw [if_neg h0]
    exact ⟨_, ⟨bc, v, (hb'.later m (by simp)).mono (by omega), rfl⟩, m.mono (fun _ _ e => e.elim), fun g hg => Or.inl hg⟩
  · rw [if_pos h0]
    exact ⟨_, ⟨bc, v', hR.mono (by omega), rfl⟩, m, ho⟩
theorem duo_CloseB (n : Int) (h : Pair P (MX pa c ka s) (RX pb c kb r) w) :
    Calls Try.prog 27 #[.pointer (some ⟨pb, 0, none⟩), .int .i64 n] w fun e w' =>
      e = .returned (.int .i64 (rcloseE c r.C n)) ∧ Pair P (MX pa c ka s) (RX pb c (kb + 12) (r.close c n)) w' ∧ Mod (fun g => ¬ P g) w w' := by
  obtain ⟨oa, ob, ha, hb, hd, hp⟩ := h
  obtain ⟨bc, v, hb', rfl⟩ := id hb
  refine (run_RClose n hb').mono ?_
  rintro e w' ⟨he, ho⟩
  refine ⟨he, duo_right ha hb hd hp ?_⟩
  unfold RS.close
  rcases ho with ⟨h0, rfl⟩ | ⟨h0, m, hR⟩
  · rw [if_neg h0]
    exact ⟨_, ⟨bc, v, hb'.mono (by omega), rfl⟩, Mod.refl _ _, fun g hg => Or.inl hg⟩
  · rw [if_pos h0]
    exact ⟨_, ⟨bc, v, hR.mono (by omega), rfl⟩, m.mono (fun g _ e => Or.inr (Or.inl e)), fun g hg => Or.inl hg⟩
end

theorem duo_open {w w1 w2 : World} {pa pb bc : Nat} {c : Cfg} {oa : Nat → Prop} (ha : MdlAt w1 pa c 0 (MS.new c) oa) (la : ∀ g, oa g → w.heap.size ≤ g) (hb : RefIn w2 pb bc (.slice none 0 0) c 0 [] (List.replicate c.nodes.toNat false)) (lb : w1.heap.size ≤ pb) (lc : w1.heap.size ≤ bc) (m1 : Mod (fun _ => False) w w1) (m2 : Mod (fun _ => False) w1 w2) :
    Duo (fun g => g < w.heap.size) w2 pa pb c 0 (MS.new c) (RS.new c) := by
  have lo : ∀ g, own3 pb bc (.slice none 0 0) g → w1.heap.size ≤ g := by
    rintro g (rfl | rfl | h)
    · exact lb
    · exact lc
    · cases h
  have hs := m1.size
  exact ⟨oa, _, ha.later m2 (by simp), ⟨bc, _, hb, rfl⟩, fun g hg hbg => by have := ha.own_lt hg; have := lo g hbg; omega, fun g hg => ⟨Nat.lt_of_lt_of_le hg (Nat.le_trans m1.size m2.size), fun h => by have := la g h; omega, fun h => by have := lo g h; omega⟩⟩

/- Packets that came in. -/
abbrev packetT : Ty := .pair .int (.pair .int (.pair .int (.pair .str .unit)))
theorem rd_packet {w : World} {B : Nat} {l : List (Dat packetT)} {a : Option Addr} {n c : Nat} (h : Rd w B (.slice packetT) l [.slice a n c]) {j : Nat} (hj : j < n) :
    ∃ (g off : Nat) (p0 p1 p2 : Int) (d : ByteArray), a = some ⟨g, off, none⟩ ∧ g < B ∧ ∀ i, i < 4 → w.cell? ⟨g, off + j * 4 + i, none⟩ = ([.int .i64 p0, .int .i64 p1, .int .i64 p2, .string d] : List Value)[i]? := by
  obtain ⟨a', n', c', h1, h2, h3, h4, h5⟩ := h
  simp only [List.cons.injEq, Value.slice.injEq, and_true] at h1
  obtain ⟨rfl, rfl, rfl⟩ := h1
  have hjl : j < List.length l := by omega
  rcases h5 with h5 | ⟨g, off, h5, h6, h7⟩
  · subst h5; simp at hjl
  · obtain ⟨ccs, h8, h9, h10⟩ := h7 j l[j] (List.getElem?_eq_getElem hjl)
    obtain ⟨e0, r0, q0, -, ⟨p0, w0⟩, e1, r1, q1, -, ⟨p1, w1⟩, e2, r2, q2, -, ⟨p2, w2⟩, e5, r5, q5, -, ⟨p5, w5⟩, q6⟩ := h10
    have q6 : r5 = [] := q6
    subst p0 p1 p2 p5 q6 q5 q2 q1
    refine ⟨g, off, l[j].1, l[j].2.1, l[j].2.2.1, l[j].2.2.2.1, h5, h6, fun i hi => ?_⟩
    rw [show off + j * 4 + i = off + j * width packetT + i from rfl, h9 i hi, q0]
    rfl

end Go.Proofs.Ytonnooenebfbeaa
