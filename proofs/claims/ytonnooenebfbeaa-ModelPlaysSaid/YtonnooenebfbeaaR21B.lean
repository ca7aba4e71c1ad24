/- The reference's model: put. -/
import Derived.Test.YtonnooenebfbeaaR21A
import Derived.Test.YtonnooenebfbeaaGrowN
namespace Go.Proofs.Ytonnooenebfbeaa
open Go.RowKit

def rputE (c : Cfg) (L : List RP) (src : Int) (m n : Nat) : Int := if 64 < n then 4 else if c.Bound < (uOf L src : Int) + m then 7 else 0
def rput (L : List RP) (src : Int) (d : ByteArray) (ts : List Int) : List RP := L ++ ts.map fun t => (src, t, d)
theorem rput_step (L : List RP) (src : Int) (d : ByteArray) (ts : List Int) (k : Nat) (t : Int) (h : ts[k]? = some t) : rput L src d (ts.take (k + 1)) = rput L src d (ts.take k) ++ [(src, t, d)] := by
  unfold rput
  rw [List.take_add_one, h]
  simp
theorem info_pkt : (Try.prog.info? 36).map (fun i => (i.zero, i.size, i.bytes)) = some (some (.agg #[.int .i64 0, .int .i64 0, .int .i64 0, .string ⟨#[]⟩]), 4, 40) := by kernel_rfl

section
variable {w : World} {b bc : Nat} {v : Value} {c : Cfg} {k : Nat} {L : List RP} {C : List Bool}

/-- One packet more. -/
theorem RefIn.grow {w' : World} {L' : List RP} {k' : Nat} (h : RefIn w b bc v c k L C) (m : Mod (fun g => v.ownBlock = some g) w w') {g n cap : Nat} (hrow : w'.ownsRow 0 36 4 (.slice (some ⟨g, 0, none⟩) n cap) n (rowsP L')) (hn : n = L'.length) (hg : v.ownBlock = some g ∨ w.heap.size ≤ g) (hl : L'.length ≤ k') :
    RefIn (w'.setCell ⟨b, 9, none⟩ (.slice (some ⟨g, 0, none⟩) n cap)) b bc (.slice (some ⟨g, 0, none⟩) n cap) c k' L' C := by
  have hb := h.blk.lt
  have hc := h.cb.lt
  have hs := fun e : v.ownBlock = some b => (h.sep b e).1 rfl
  have hs2 := fun e : v.ownBlock = some bc => (h.sep bc e).2 rfl
  have hne := h.ne
  have hgb : g ≠ b ∧ g ≠ bc := by
    rcases hg with hg | hg
    · exact h.sep g hg
    · exact ⟨by omega, by omega⟩
  have ms : Mod (fun q => q = b) w' (w'.setCell ⟨b, 9, none⟩ (.slice (some ⟨g, 0, none⟩) n cap)) := (Mod.refl (fun q => q = b) w').setCell (p := ⟨b, 9, none⟩) (Or.inl rfl) _
  subst hn
  refine ⟨?_, own_laterR hrow ms (fun q hq e => ?_), (h.cb.later m hs2).later ms (fun e => hne e.symm), h.cl, h.ne, fun q hq => ?_, hl⟩
  · have := (h.blk.later m hs).set 9 (.slice (some ⟨g, 0, none⟩) L'.length cap)
    simpa using this
  · have : g = q := by simpa [Value.ownBlock] using hq
    omega
  · have : g = q := by simpa [Value.ownBlock] using hq
    subst this
    exact hgb

set_option maxRecDepth 100000 in
set_option maxHeartbeats 3200000 in
theorem run_RPut (src : Int) (u : Value) (ts : List Int) (d : ByteArray) (h : RefIn w b bc v c k L C) (hk : k ≤ 100000) (hs : SlV w u (ts.map (Value.int .i64))) (hlen : ts.length ≤ 12) (hdata : d.size ≤ 4294967295) (hB : 0 ≤ c.Bound ∧ c.Bound ≤ 16) (hsep : ∀ a n c, u = .slice (some a) n c → ¬ own3 b bc v a.block) :
    Calls Try.prog 43 #[.pointer (some ⟨b, 0, none⟩), .int .i64 src, u, .string d] w fun e w' =>
      e = .returned (.int .i64 (rputE c L src ts.length d.size)) ∧
      ((rputE c L src ts.length d.size ≠ 0 ∧ Mod (fun _ => False) w w') ∨
       (rputE c L src ts.length d.size = 0 ∧ Mod (own3 b bc v) w w' ∧ ∃ v', RefIn w' b bc v' c (k + ts.length) (rput L src d ts) C ∧ ∀ g, own3 b bc v' g → own3 b bc v g ∨ w.heap.size ≤ g)) := by
  obtain ⟨c0, c1, c2, c3, c4, c5, c6, c7, c8, c9, c10⟩ := ref_cells h
  obtain ⟨a, len, cap, rfl, hl, hcap, hmax, -⟩ := id hs
  rw [List.length_map] at hl
  have hbl := h.blk.lt
  have H := Lib.hid h
  have HS := Lib.hid hs
  have HL := Lib.hid hl
  have HSEP := Lib.hid hsep
  unfold maxLen at hmax
  have hlen' : len ≤ 12 := by omega
  have hul : uOf L src ≤ k := by
    have := uOf_le L L.length src
    rw [List.take_length] at this
    exact Nat.le_trans this h.lk
  have HU := Lib.hid (run_RUnder src (h.later ((Mod.refl (fun _ => False) w).drew) (by simp)) hk)
  generalize hE : rputE c L src ts.length d.size = E
  have HE := Lib.hid hE
  have hE2 : E = if 64 < d.size then 4 else if c.Bound < (uOf L src : Int) + len then 7 else 0 := by rw [← hE, ← hl]; rfl
  have HE2 := Lib.hid hE2
  obtain ⟨q, hq⟩ : ∃ q, uOf L src = q := ⟨_, rfl⟩
  rw [hq] at HE2 hul
  have HQ := Lib.hid hq
  rw [hl]
  clear h hs hl hlen hsep hE hE2 hq
  go_enter Try.func43, Try.ntmps43
  by_cases hd : 64 < d.size
  · have hd1 : (64 : Int) < (d.size : Int) := by omega
    have hv : E = 4 := by rw [HE2.out, if_pos hd]
    have HV := Lib.hid hv
    clear hv
    go_wp2
    go_ret
    exact ⟨by rw [HV.out]; rfl, Or.inl ⟨by rw [HV.out]; decide, Mod.refl _ _⟩⟩
  have hd1 : ¬ (64 : Int) < (d.size : Int) := by omega
  have HD := Lib.hid hd
  clear hd
  go_upto_region 3 with fail
  go_cut [24] (fun z w' => z = .bool (decide (c.Bound < (q : Int) + len)) ∧ Drw w w')
  case first => as_aux_lemma =>
    go_region_held3 (fun w' => w'.cell? ⟨b, 6, none⟩ = some (.int .i64 c.Bound))
      (first | exact c6 | exact (d9.cell _).trans c6 | go_keep)
      ((go_at_call 30; refine (HU.out).mono ?_; rw [HQ.out]; rintro e w9 ⟨rfl, d9⟩))
    all_goals go_wp2_with fail
    all_goals go_meet
    all_goals exact ⟨by simp [IntWalk.i64_in ((q : Int) + len) (by omega)], (Drw.drew _).trans d9⟩
  case rest =>
    obtain ⟨rfl, hdr⟩ := hcut
    have m1 := hdr.mod (fun _ => False)
    have H1 := Lib.hid (H.out.later m1 (by simp))
    have HS1 := Lib.hid (HS.out.later m1 (by simp))
    have hsz := m1.size
    clear H HS HU c0 c1 c2 c3 c4 c5 c6 c7 c8 c9 c10 hdr
    obtain ⟨w1, rfl⟩ : ∃ wo : World, wo = wc := ⟨_, rfl⟩
    by_cases hfu : c.Bound < (q : Int) + (len : Int)
    · have q1 : decide (c.Bound < (q : Int) + (len : Int)) = true := by simp only [decide_eq_true_eq]; omega
      have hv : E = 7 := by rw [HE2.out, if_neg HD.out, if_pos hfu]
      have HV := Lib.hid hv
      clear hv
      go_wp2
      go_ret
      exact ⟨by rw [HV.out]; rfl, Or.inl ⟨by rw [HV.out]; decide, m1⟩⟩
    have q1 : decide (c.Bound < (q : Int) + (len : Int)) = false := by simp only [decide_eq_false_iff_not]; omega
    have hv : E = 0 := by rw [HE2.out, if_neg HD.out, if_neg hfu]
    have HV := Lib.hid hv
    clear hv
    go_wp2
    go_loopw [9] (fun i wr => ∃ (j : Nat) (v' : Value), j ≤ len ∧ i = .int .i64 j ∧ RefIn wr b bc v' c (k + j) (rput L src d (ts.take j)) C ∧ Mod (own3 b bc v) w1 wr ∧ ∀ g, own3 b bc v' g → own3 b bc v g ∨ w1.heap.size ≤ g) (fun i _ => len - (intOf i).toNat)
    case atStart => exact ⟨0, v, by omega, by simp, by simpa [rput] using H1.out, Mod.refl _ _, fun g hg => Or.inl hg⟩
    case round =>
      obtain ⟨j, v', hj, rfl, hR, hmod, hown⟩ := hrel
      obtain ⟨wA, rfl⟩ : ∃ wo : World, wo = wr := ⟨_, rfl⟩
      have HR := Lib.hid hR
      have HOW := Lib.hid hown
      clear hR hown
      by_cases hlt : j < len
      · obtain ⟨t, ht⟩ : ∃ t, ts[j]? = some t := ⟨_, List.getElem?_eq_getElem (by have := HL.out; omega)⟩
        obtain ⟨B, off, rfl, hB1, dt⟩ := HS1.out.at j hlt
        rw [ints_get ht] at dt
        have hst := rput_step L src d ts j t ht
        have hsepB := HSEP.out ⟨B, off, none⟩ _ _ rfl
        have dtA := (hmod.cell (p := ⟨B, off + j, none⟩) hB1 hsepB).trans dt
        have hBA : B < wA.heap.size := Nat.lt_of_lt_of_le hB1 hmod.size
        obtain ⟨-, -, -, -, -, -, -, -, -, c9, -⟩ := ref_cells HR.out
        have c9z := HR.out.blk.fz 9
        have hrow := HR.out.row
        have hbA := HR.out.blk.lt
        have hob := fun e : v'.ownBlock = some b => (HR.out.sep b e).1 rfl
        obtain ⟨M, hM⟩ : ∃ M, rput L src d (ts.take j) = M := ⟨_, rfl⟩
        rw [hM] at hst hrow
        have hMl : M.length ≤ k + j := by rw [← hM]; exact HR.out.lk
        have HM := Lib.hid hM
        have HST := Lib.hid hst
        clear ht hst hM
        have r2 : (0 : Int) ≤ (j : Int) := by omega
        have r3 : (j : Int) < (len : Int) := by omega
        go_upto_region 8 with fail
        go_region_law ((refine step_appendE rfl _ _ 52 rfl 0 36 (.agg #[.int .i64 0, .int .i64 0, .int .i64 0, .string ⟨#[]⟩]) 4 40 Try.underlying52 info_pkt rfl (by decide) v' M.length (rowsP M) (by rfl) hrow #[.int .i64 src, .int .i64 t, .int .i64 0, .string d] rfl (by rfl) (by simp [Value.oneCell']) (by unfold maxLen; omega) (by omega) (by omega) ?_; intro g gcap2 wz hown7 hm7 hat7; have zz := (HR.out.blk.later hm7 hob).fz 9; have yy := (HR.out.blk.later hm7 hob).cell 9; simp at yy))
        all_goals
          go_wp2
          go_roundw
          case rel =>
            have hR2 := (HR.out.mono (show k + j ≤ k + (j + 1) by omega)).grow (L' := M ++ [(src, t, d)]) (k' := k + (j + 1)) hm7 (g := g) (n := M.length + 1) (cap := gcap2) (by rw [rowsP_app]; exact hown7) (by simp) (hat7.imp id (fun e => by omega)) (by simp; omega)
            refine ⟨j + 1, .slice (some ⟨g, 0, none⟩) (M.length + 1) gcap2, by omega, by go_num, ?_, ?_, fun q hq => ?_⟩
            · rw [HST.out]
              exact hR2
            · exact (hmod.trans hm7 (fun i hi e => (HOW.out i (Or.inr (Or.inr e))).elim id (fun e => by omega))).setCell (p := ⟨b, 9, none⟩) (Or.inl (Or.inl rfl)) _
            · rcases hq with hq | hq | hq
              · exact Or.inl (Or.inl hq)
              · exact Or.inl (Or.inr (Or.inl hq))
              · have e : g = q := by simpa [Value.ownBlock] using hq
                subst e
                rcases hat7 with h7 | h7
                · exact HOW.out g (Or.inr (Or.inr h7))
                · have := hmod.size
                  exact Or.inr (by omega)
          case measure => simp [intOf]; omega
      · have hjl : j = len := by omega
        have hfin : rput L src d (ts.take j) = rput L src d ts := by rw [List.take_of_length_le (by have := HL.out; omega)]
        have HF := Lib.hid hfin
        have mfin := (m1.mono (S' := own3 b bc v) (fun i hi e => e.elim)).trans hmod (fun i hi e => e)
        subst hjl
        clear hfin
        go_wp2
        go_ret
        refine ⟨by rw [HV.out]; rfl, Or.inr ⟨HV.out, mfin, v', ?_, fun g hg => (HOW.out g hg).imp id (fun e => by omega)⟩⟩
        rw [← HF.out]
        exact HR.out

end
end Go.Proofs.Ytonnooenebfbeaa
