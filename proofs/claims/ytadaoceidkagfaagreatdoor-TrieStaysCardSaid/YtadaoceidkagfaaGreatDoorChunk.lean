
import Derived.Test.YtadaoceidkagfaaGreatDoorBits1
namespace Go.Proofs.YtadaoceidkagfaaGreatDoor
open Go.RowKit Go.Bw
theorem cut_eq (x k : Nat) (hk : k <= 60) : IntKind.u64.wrap ((x : Int) / 2 ^ (min (k : Int) 64).toNat * 2 ^ (64 - min (max 5 0) 64 : Int).toNat) / 2 ^ (64 - min (max 5 0) 64 : Int).toNat = ((x / 2 ^ k % 32 : Nat) : Int) := by
  have e1 : (min (k : Int) 64).toNat = k := by omega
  have e2 : (64 - min (max 5 0) 64 : Int).toNat = 59 := by decide
  rw [e1, e2, IntKind.wrap_u64]
  have e3 : ((x : Int) / 2 ^ k) = ((x / 2 ^ k : Nat) : Int) := by rw [Int.natCast_ediv, Int.natCast_pow]; rfl
  rw [e3]
  generalize x / 2 ^ k = y
  omega
set_option maxRecDepth 100000 in
set_option maxHeartbeats 400000 in
theorem cut_any (x k : Nat) (hk : k <= 60) (w : World) :
    Calls Tryz.prog 133 #[.int .u64 (x : Nat), .int .i64 (k : Nat), .int .i64 5] w fun e w' => e = .returned (.int .u64 (x / 2 ^ k % 32 : Nat)) /\ w = w' := by
  have h1 : (0 : Int) <= (k : Int) := by omega
  have h2 : (k : Int) <= 64 := by omega
  go_enter Tryz.func133, Tryz.ntmps133
  go_wp2
  go_ret
  exact ⟨by rw [<- cut_eq x k hk]; rfl, rfl⟩
set_option maxRecDepth 100000 in
set_option maxHeartbeats 400000 in
theorem at_any (h level : Nat) (hl : level <= 12) (w : World) :
    Calls Tryz.prog 104 #[.int .u64 (h : Nat), .int .i64 (level : Nat)] w fun e w' => e = .returned (.int .i64 (Bw.chunkAt h level : Nat)) /\ w = w' := by
  have C := Lib.hid (fun w => cut_any h (5 * level) (by omega) w)
  have h1 : (0 : Int) <= (level : Int) := by omega
  have h2 : (level : Int) <= 12 := by omega
  go_enter Tryz.func104, Tryz.ntmps104
  go_wp2_with fail
  rw [show (5 * min (level : Int) 12) = ((5 * level : Nat) : Int) by omega]
  refine (C.out _).mono ?_
  rintro e w1 ⟨rfl, rfl⟩
  have hw : IntKind.i64.wrap (((h / 2 ^ (5 * level) % 32 : Nat) : Int)) = ((h / 2 ^ (5 * level) % 32 : Nat) : Int) := by rw [IntKind.wrap_i64]; omega
  have he : h / 2 ^ (5 * level) % 32 = Bw.chunkAt h level := by unfold Bw.chunkAt; rw [Nat.pow_mul]
  rw [he] at hw ⊢
  go_wp2
  go_ret
  exact ⟨rfl, rfl⟩
end Go.Proofs.YtadaoceidkagfaaGreatDoor
