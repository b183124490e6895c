/- What the library's FormatUint at base 10 answers. -/
import Derived.Test.YtjjakdmcnkldoaaDoorShelf
import Derived.Lib.Walk
import Derived.Lib.ItoaMem
import Derived.WalkKit
import Derived.BigCall
import Derived.BigGuard
namespace Go.Proofs.YtjjakdmcnkldoaaDoor
open Go.RowKit Go.Sort Go.Lib

/-- A byte as a cell. -/
abbrev asByte (b : UInt8) : Value := Value.int .u8 (b.toNat : Int)
/-- A new block's bytes from its begin on are zeros. -/
theorem zeros_held (w : World) (T : TypeId) (n : Nat) (hn : n ≤ 24) : Holds asByte (w.alloc (.cells zeros24 T)) w.heap.size 0 (Array.replicate n (0 : UInt8)) := fun j hj => by
  have hj' : j < n := by simpa using hj
  refine ⟨?_, World.frozen?_alloc_new _ _ _ _⟩
  rw [World.cell?_alloc_new, zeros24_at _ (by omega), getElem!_pos _ j hj]
  simp
/-- The world behind: new blocks, draws. -/
theorem behind (w : World) (o : Obj) (dk : Array UInt8) (k : Nat) : ∃ os, (putRow asByte (w.alloc o) w.heap.size 0 dk).drewN k = grow (w.drewN k) os := by
  rw [alloc_eq_grow]
  obtain ⟨os', _, e⟩ := putRow_grow_new asByte w #[o] w.heap.size 0 dk (Nat.le_refl _)
  exact ⟨os', by rw [e]; rfl⟩
theorem formatUint_small (u : Nat) (hu : u < 100) (w : World) :
    Calls Tryd.prog 138 #[.int .u64 u, .int .i64 10] w fun e w' => e = .returned (.string ⟨(decDigits u).toArray⟩) ∧ w' = w := by
  have hw : IntKind.i64.wrap (u : Int) = (u : Int) := by rw [IntKind.wrap_i64]; omega
  go_enter Tryd.func138, Tryd.ntmps138
  go_wp2_with (go_at_call 160; refine (Tryd.internal_strconv_small u hu _).mono ?_; rintro e w' ⟨rfl, rfl⟩)
  go_ret
  exact ⟨rfl, rfl⟩
set_option maxHeartbeats 3000000 in
set_option maxRecDepth 100000 in
theorem formatUint_big (u : Nat) (hu : 100 ≤ u) (hu2 : u < 18446744073709551616) (w : World) (htab : TabIs Tryd.prog w "internal/strconv.uint64pow10" .u64 pow10Tab) :
    Calls Tryd.prog 138 #[.int .u64 u, .int .i64 10] w fun e w' => e = .returned (.string ⟨(decDigits u).toArray⟩) ∧ ∃ k os, w' = grow (w.drewN k) os := by
  have hu1 : 1 ≤ u := by omega
  have hn : nDigits u ≤ 20 := by have := numDigits_eq u hu1 hu2; split at this <;> omega
  have hal : Tryd.prog.arrayLen 199 = 24 := by simp [Program.arrayLen, Tryd.underlying199]
  have hsl : ∀ W, (Instr.sliceAt 199 (.pointer (some ⟨w.heap.size, 0, none⟩)) none (some (.int .i64 (nDigits u : Int))) none).run Tryd.prog W = .ok (.slice (some ⟨w.heap.size, 0, none⟩) (nDigits u) 24) W := fun W => by
    rw [run_sliceAt_array_h W 199 ⟨w.heap.size, 0, none⟩ (by simp [Program.arrayLen, Program.elem, Tryd.underlying199]) .i64 (nDigits u : Int) (by omega) (by rw [hal]; omega)]
    go_simp
  have hz := zeros_held w 199 (nDigits u) (by omega)
  have hf := Tryd.internal_strconv_formatBase10 w.heap.size 0 24 u (Array.replicate (nDigits u) 0) (w.alloc (.cells zeros24 199)) hz (by rw [Array.size_replicate]; exact lt_pow_nDigits u) hu2 (by rw [Array.size_replicate]; omega)
  rw [Array.size_replicate] at hf
  have hH := hid hz
  clear hz hal
  go_enter Tryd.func138, Tryd.ntmps138
  go_wp2_with (first
    | (go_at_call 161; refine (Tryd.internal_strconv_numDigits u hu1 hu2 _ (tabIs_alloc htab _)).mono ?_; rintro e w' ⟨rfl, rfl⟩))
  go_at_call 162
  refine hf.mono ?_
  rintro e w' ⟨rfl, k, v', dk, rfl, hF⟩
  have hcv : (convert 22 9 (.slice (some ⟨w.heap.size, 0, none⟩) (nDigits u) 24)).run Tryd.prog ((putRow asByte (w.alloc (.cells zeros24 199)) w.heap.size 0 dk).drewN k) = .ok (.string ⟨(decDigits u).toArray⟩) ((putRow asByte (w.alloc (.cells zeros24 199)) w.heap.size 0 dk).drewN k) := by
    have h := run_convert_bytes_back (P := Tryd.prog) ((putRow asByte (w.alloc (.cells zeros24 199)) w.heap.size 0 dk).drewN k) 22 9 5 ⟨w.heap.size, 0, none⟩ 24 (decDigits u) Tryd.underlying22 Tryd.underlying5 Tryd.underlying9 (fun j hj => by
      rw [row_is_numeral hF j hj, add_plain, World.cell?_drewN]
      exact cell?_putRow asByte _ w.heap.size 0 _ dk hH.out (by rw [hF.size, Array.size_replicate]) j (by rw [hF.size]; rw [decDigits_length] at hj; exact hj))
    rw [decDigits_length] at h
    exact h
  go_wp2
  go_ret
  obtain ⟨os, eo⟩ := behind w (.cells zeros24 199) dk k
  exact ⟨rfl, k, os, eo⟩
end Go.Proofs.YtjjakdmcnkldoaaDoor
