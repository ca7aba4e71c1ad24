/- The library's functions that config's texts are read and written by: one contract each. -/
import Derived.Test.YthmohnoloonfoaaDoorLibV
import Derived.Test.YthmohnoloonfoaaDoorShelf
import Derived.Test.YthmohnoloonfoaaDoorCfg
import Derived.Lib.AtoiAll
import Derived.Lib.AtoiErrMem
import Derived.Lib.AppendIntMem
namespace Go.Proofs.YthmohnoloonfoaaDoor
open Go.RowKit

abbrev mkS (l : List UInt8) : ByteArray := ⟨l.toArray⟩

theorem run_Itoa (n : Int) (hn : (Lit.int .i64 n).wf = true) (w : World) (L : LibV w) :
    Calls Tryd.prog 22 #[.int .i64 n] w fun e w' => e = .returned (.string (mkS (Lib.itoa n))) ∧ Mod (fun _ => False) w w' := by
  have hb := bounds_i64 hn
  refine (Tryd.strconv_Itoa n hb.1 hb.2 w L.tab).mono ?_
  rintro e w' ⟨he, k, os, rfl⟩
  exact ⟨he, Mod.of_below (Lib.below_grow w.heap.size w (Nat.le_refl _) k os) rfl _⟩

theorem run_TrimPrefix (s p : ByteArray) (w : World) :
    Calls Tryd.prog 39 #[.string s, .string p] w fun e w' => e = .returned (.string (mkS (Lib.trimPrefix s.data.toList p.data.toList))) ∧ w = w' := by
  refine (Tryd.strings_TrimPrefix s p w).mono ?_
  rintro e w' ⟨he, rfl⟩
  exact ⟨he, rfl⟩

theorem run_Cut (s sep : ByteArray) (w : World) (L : LibV w) (hs : s.size < 4294967281) :
    Calls Tryd.prog 25 #[.string s, .string sep] w fun e w' => e = .returned (.tuple #[.string (mkS (Lib.cut s.data.toList sep.data.toList).1), .string (mkS (Lib.cut s.data.toList sep.data.toList).2.1), .bool (Lib.cut s.data.toList sep.data.toList).2.2]) ∧ Mod (fun _ => False) w w' := by
  obtain ⟨m, hm⟩ := L.ml
  refine (Tryd.strings_Cut s sep m w hs hm).mono ?_
  rintro e w' ⟨he, n, rfl⟩
  exact ⟨he, (Mod.refl _ _).drewN n⟩

theorem run_Split (s sep : ByteArray) (w : World) (L : LibV w) (hs : s.size < 4294967281) (h1 : 1 ≤ sep.size) :
    Calls Tryd.prog 26 #[.string s, .string sep] w fun e w' => e = .returned (.slice (some ⟨w.heap.size, 0, none⟩) (Lib.countB s sep + 1) (Lib.countB s sep + 1)) ∧ w' = w.alloc (.cells ((Lib.splitB sep 0 (Lib.countB s sep) s).map Value.string).toArray 9) := by
  obtain ⟨m, hm⟩ := L.ml
  exact Tryd.strings_Split s sep m w hs hm h1

theorem run_Atoi (s : ByteArray) (w : World) (L : LibV w) (hs : s.size ≤ 281474976710656) :
    Calls Tryd.prog 38 #[.string s] w fun e w' => Mod (fun _ => False) w w' ∧
      ((∃ v, Lib.atoiAll s.data.toList = .ok v ∧ (Lit.int .i64 v).wf = true ∧ e = .returned (.tuple #[.int .i64 v, .nilIface])) ∨
       ((∀ v, Lib.atoiAll s.data.toList ≠ .ok v) ∧ ∃ x t p, e = .returned (.tuple #[.int .i64 x, .iface t p]))) := by
  rcases h : Lib.atoiAll s.data.toList with v | _ | _
  · refine (Tryd.strconv_Atoi_ok s (by omega) v h w).mono ?_
    rintro e w' ⟨he, hw⟩
    have hb := Lib.atoiAll_bounds h
    refine ⟨?_, Or.inl ⟨v, rfl, ?_, he⟩⟩
    · rcases hw with rfl | ⟨t, rfl⟩
      · exact Mod.refl _ _
      · exact Mod.of_below (Lib.bytesWorld_below _ _ _) rfl _
    · simp [Lit.wf, IntKind.min, IntKind.max, IntKind.signed, IntKind.bits]
      omega
  · obtain ⟨tp, p, hv⟩ := L.es
    refine (Tryd.strconv_Atoi_syntax_var s hs h tp p w hv).mono ?_
    rintro e w' ⟨N, he, -, -, hb⟩
    exact ⟨Mod.of_below hb rfl _, Or.inr ⟨fun v => by simp, _, _, _, he⟩⟩
  · obtain ⟨tp, p, hv⟩ := L.er
    refine (Tryd.strconv_Atoi_range_var s hs h tp p w hv).mono ?_
    rintro e w' ⟨N, he, -, -, hb⟩
    exact ⟨Mod.of_below hb rfl _, Or.inr ⟨fun v => by simp, _, _, _, he⟩⟩

theorem strs_getD {xs : List ByteArray} {j : Nat} (hj : j < xs.length) : (xs.map Value.string).getD j undef = .string (xs.getD j ByteArray.empty) := by
  simp [List.getD_eq_getElem?_getD, hj]

theorem run_Join (v : Value) (xs : List ByteArray) (sep : ByteArray) (w : World) (h : SlV w v (xs.map Value.string)) (hlen : (Lib.join (xs.map (·.data.toList)) sep.data.toList).length ≤ 140737488355328) (hN : xs.length ≤ 140737488355328) :
    Calls Tryd.prog 23 #[v, .string sep] w fun e w' => e = .returned (.string (mkS (Lib.join (xs.map (·.data.toList)) sep.data.toList))) ∧ Mod (fun _ => False) w w' := by
  obtain ⟨a, n, c, rfl, hn, hc, hm, hcell⟩ := h
  rw [List.length_map] at hn
  rcases hcell with h0 | ⟨B, off, rfl, hB, hcell⟩
  · obtain rfl : xs = [] := by simpa using h0
    obtain rfl : n = 0 := by simpa using hn.symm
    refine (Tryd.strings_Join_none a c sep w).mono ?_
    rintro e w' ⟨he, rfl⟩
    refine ⟨?_, Mod.refl _ _⟩
    rw [he]
    rfl
  · have := Tryd.strings_Join B off c xs sep w (fun j x hj => by
      have hjl : j < xs.length := (List.getElem?_eq_some_iff.1 hj).1
      rw [hcell j (by simpa using hjl), strs_getD hjl]
      simp [List.getD_eq_getElem?_getD, hj]) hB hN (by omega) hlen
    rw [hn] at this
    refine this.mono ?_
    rintro e w' ⟨he, hb⟩
    exact ⟨he, Mod.of_below hb rfl _⟩

end Go.Proofs.YthmohnoloonfoaaDoor
