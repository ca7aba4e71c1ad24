/- What a model refuses: plain facts. -/
import Derived.Test.YtonnooenebfbeaaMdlTwo
namespace Go.Proofs.Ytonnooenebfbeaa
open Go.RowKit

def MS.Short (s : MS) : Prop := ∀ i j, ∀ d ∈ s.Q i j, d.size ≤ 64

theorem MS.new_short (c : Cfg) : (MS.new c).Short := by
  intro i j d hd
  simp [MS.new] at hd
theorem sendE_size {c : Cfg} {U : List Int} {C : List Bool} {src dst : Int} {n : Nat} (h : Go.Proofs.Ytonnooenebfbeaa.sendE c U C src dst n = 0) : n ≤ 64 := by
  unfold Go.Proofs.Ytonnooenebfbeaa.sendE at h
  split at h
  · split at h
    · split at h
      · omega
      · omega
    · contradiction
  · omega
theorem castE_size {c : Cfg} {U : List Int} {C : List Bool} {src : Int} {l : List Int} {n : Nat} (h : Go.Proofs.Ytonnooenebfbeaa.castE c U C src l n = 0) : n ≤ 64 := by
  unfold Go.Proofs.Ytonnooenebfbeaa.castE at h
  split at h
  · split at h
    · split at h
      · split at h
        · omega
        · omega
      · omega
    · omega
  · contradiction
theorem MS.send_short {c : Cfg} {s : MS} (h : s.Short) (src dst : Int) (d : ByteArray) : (s.send c src dst d).Short := by
  unfold MS.send
  split
  · rename_i h0
    have hd := sendE_size h0
    intro i j x hx
    simp only [updQ] at hx
    split at hx
    · rcases List.mem_append.1 hx with hx | hx
      · exact h _ _ x hx
      · simp at hx
        subst hx
        exact hd
    · exact h _ _ x hx
  · exact h
theorem putQ_short {d : ByteArray} (hd : d.size ≤ 64) (src : Int) : ∀ (l : List Int) (Q : Int → Int → List ByteArray), (∀ i j, ∀ x ∈ Q i j, x.size ≤ 64) → ∀ i j, ∀ x ∈ putQ Q src d l i j, x.size ≤ 64 := by
  intro l
  induction l with
  | nil => intro Q h; exact h
  | cons t l ih =>
    intro Q h
    refine ih _ ?_
    intro i j x hx
    simp only [updQ] at hx
    split at hx
    · rcases List.mem_append.1 hx with hx | hx
      · exact h _ _ x hx
      · simp at hx
        subst hx
        exact hd
    · exact h _ _ x hx
theorem MS.cast_short {c : Cfg} {s : MS} (h : s.Short) (src : Int) (l : List Int) (d : ByteArray) : (s.cast c src l d).Short := by
  unfold MS.cast
  split
  · rename_i h0
    exact putQ_short (castE_size h0) src l s.Q h
  · exact h
theorem MS.took_short {c : Cfg} {s : MS} (h : s.Short) (node src dst : Int) (d : ByteArray) : (s.took c node src dst d).Short := by
  unfold MS.took
  split
  · intro i j x hx
    simp only [updQ] at hx
    split at hx
    · exact h _ _ x (List.mem_of_mem_tail hx)
    · exact h _ _ x hx
  · exact h
theorem MS.close_short {c : Cfg} {s : MS} (h : s.Short) (n : Int) : (s.close c n).Short := by
  unfold MS.close
  split
  · exact h
  · exact h

section
variable {c : Cfg} {s : MS}
theorem MS.send_same {src dst : Int} {d : ByteArray} (h : s.sendE c src dst d ≠ 0) : s.send c src dst d = s := by unfold MS.send; rw [if_neg h]
theorem MS.cast_same {src : Int} {l : List Int} {d : ByteArray} (h : s.castE c src l d ≠ 0) : s.cast c src l d = s := by unfold MS.cast; rw [if_neg h]
theorem MS.took_same {node src dst : Int} {d : ByteArray} (h : s.tookE c node src dst d ≠ 0) : s.took c node src dst d = s := by unfold MS.took; rw [if_neg h]
theorem MS.close_same {n : Int} (h : s.may c n ≠ 0) : s.close c n = s := by unfold MS.close; rw [if_neg h]

theorem not_is_nodes (c : Cfg) : ¬ c.is c.nodes = true := by
  rw [c.is_iff]
  omega
theorem not_is_neg (c : Cfg) : ¬ c.is (-1) = true := by
  rw [c.is_iff]
  omega
theorem ref_send1 {k : Int} (hk : c.is k = true) (d : ByteArray) : s.sendE c c.nodes k d = 5 := by
  unfold MS.sendE Go.Proofs.Ytonnooenebfbeaa.sendE
  have h : mayE c s.C c.nodes = 5 := by unfold mayE; rw [if_neg (not_is_nodes c)]
  rw [if_pos hk, if_neg (by rw [h]; decide), h]
theorem ref_send2 (k : Int) (d : ByteArray) : s.sendE c k (-1) d = 5 := by
  unfold MS.sendE Go.Proofs.Ytonnooenebfbeaa.sendE
  rw [if_neg (not_is_neg c)]
theorem ref_send3 (k j : Int) {d : ByteArray} (hd : 64 < d.size) : s.sendE c k j d ≠ 0 := fun h => by
  have := sendE_size h
  omega
theorem ref_cast1 (k : Int) (d : ByteArray) : s.castE c k [] d ≠ 0 := by
  unfold MS.castE Go.Proofs.Ytonnooenebfbeaa.castE
  split
  · split
    · rw [if_neg (fun h => h.1 rfl)]
      decide
    · decide
  · assumption
theorem ref_cast2 (k : Int) (d : ByteArray) : s.castE c k [k, k] d ≠ 0 := by
  unfold MS.castE Go.Proofs.Ytonnooenebfbeaa.castE
  split
  · split
    · rw [if_neg (fun h => by have := h.2.2.2; simp at this)]
      decide
    · decide
  · assumption
theorem ref_took1 (a b : Int) (d : ByteArray) : s.tookE c c.nodes a b d = 5 := by
  unfold MS.tookE Go.Proofs.Ytonnooenebfbeaa.tookE
  rw [if_neg (fun h => not_is_nodes c h.1)]
theorem ref_took2 {k : Int} (hk : c.is k = true) (hs : s.Short) {d : ByteArray} (hd : 64 < d.size) : s.tookE c k k k d = 13 := by
  unfold MS.tookE Go.Proofs.Ytonnooenebfbeaa.tookE
  rw [if_pos ⟨hk, hk⟩, if_neg]
  rintro ⟨-, h⟩
  have := hs k k d (by
    cases hq : s.Q k k with
    | nil => rw [hq] at h; simp at h
    | cons x xs => rw [hq] at h; simp at h; subst h; simp)
  omega
theorem ref_close1 : s.may c (-1) = 5 := by
  unfold MS.may mayE
  rw [if_neg (not_is_neg c)]
end

theorem two_mono {P : Nat → Prop} {w : World} {pa pb : Nat} {c : Cfg} {ka kb ka' kb' : Nat} {sa sb : MS} (h : Two P w pa pb c ka kb sa sb) (h1 : ka ≤ ka') (h2 : kb ≤ kb') : Two P w pa pb c ka' kb' sa sb := by
  obtain ⟨oa, ob, ha, hb, r⟩ := h
  exact ⟨oa, ob, ha.mono h1, hb.mono h2, r⟩
theorem two_drew {P : Nat → Prop} {w : World} {pa pb : Nat} {c : Cfg} {ka kb : Nat} {sa sb : MS} (h : Two P w pa pb c ka kb sa sb) : Two P w.drew pa pb c ka kb sa sb :=
  h.later (MX.stable _ _ _ _) (MX.stable _ _ _ _) ((Mod.refl _ _).drew)
theorem blk_keep {P : Nat → Prop} {w w' : World} {b : Nat} {cs : Array Value} {t : TypeId} (h : Blk w b cs t) (m : Mod (fun g => ¬ P g) w w') (hP : P b) : Blk w' b cs t := h.later m (fun h => h hP)
theorem blk_keep0 {w w' : World} {b : Nat} {cs : Array Value} {t : TypeId} (h : Blk w b cs t) (m : Mod (fun _ => False) w w') : Blk w' b cs t := h.later m (by simp)

end Go.Proofs.Ytonnooenebfbeaa
