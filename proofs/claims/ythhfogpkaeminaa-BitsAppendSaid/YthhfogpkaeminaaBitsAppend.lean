/- The walk of the law BitsAppend. -/
import Derived.Test.YthhfogpkaeminaaBitsTwo
import Derived.Deep.RegionHeld3
namespace Go.Proofs.Ythhfogpkaeminaa
open Go.RowKit Go.Sort
theorem wrap_u8 (u : UInt8) : wrap64 (u.toNat : Int) = ((u.toNat : Nat) : Int) := by
  have := u.toNat_lt
  unfold wrap64; omega
theorem put_byte_err (c : Nat) (hc : c < 256) : putErr c 8 = 0 := by
  unfold putErr
  rw [if_neg (by omega), if_neg]
  intro h
  rcases h with h | h
  · omega
  · rw [show (8 : Int).toNat = 8 from rfl] at h
    have : (2 : Int) ^ 8 = 256 := by decide
    omega
theorem put_byte_bits (c : Nat) (hc : c < 256) : putBits c 8 = Bits.bitsN c 8 := by
  unfold putBits
  rw [if_pos (put_byte_err c hc)]
  rfl
set_option maxRecDepth 100000 in
set_option maxHeartbeats 2000000 in
theorem bitsAppend_walk (s : ByteArray) (a1 : Option Addr) (n cap : Nat) (zs : List (Int × Int)) (w : World) (_hs : s.size ≤ 140737488351232) (hz : Pairs w a1 n zs) :
    Calls Try.prog 7 #[.string s, .slice a1 n cap] w fun e w' => e = .returned (.bool true) ∧ Below w.heap.size w w' := by
  clear _hs
  have hb0 := Below.refl w.heap.size w
  by_cases h60 : s.size ≤ 300 ∧ n ≤ 60
  · obtain ⟨h300, h60⟩ := h60
    go_enter Try.func7, Try.ntmps7
    go_wp2_with (go_at_call 17; (with_reducible refine (on_base (by assumption) (bitsAwake_is _)).mono ?_); rintro e w1 ⟨rfl, hb1⟩)
    obtain ⟨b, hbe⟩ : ∃ b, b = w1.heap.size := ⟨_, rfl⟩
    have hv0 : Wr ((w1.alloc (.cells #[.slice none 0 0, .int .i64 0] 31)).alloc (.cells #[.slice none 0 0, .int .i64 0] 31)) b [] [] := by
      rw [hbe]; exact (wr_new w1).below ((Below.refl _ _).alloc (Nat.le_refl _) _)
    have hw0 : Wr ((w1.alloc (.cells #[.slice none 0 0, .int .i64 0] 31)).alloc (.cells #[.slice none 0 0, .int .i64 0] 31)) (b + 1) [] [] := by
      have := wr_new (w1.alloc (.cells #[.slice none 0 0, .int .i64 0] 31))
      rw [World.size_alloc, ← hbe] at this; exact this
    have hB0 : Below w.heap.size w ((w1.alloc (.cells #[.slice none 0 0, .int .i64 0] 31)).alloc (.cells #[.slice none 0 0, .int .i64 0] 31)) :=
      (hb1.alloc hb1.size _).alloc (by have := hb1.size; simp; omega) _
    have hbw : w.heap.size ≤ b := by rw [hbe]; exact hb1.size
    rw [← hbe]
    clear hbe hb1
    generalize (w1.alloc (.cells #[.slice none 0 0, .int .i64 0] 31)).alloc (.cells #[.slice none 0 0, .int .i64 0] 31) = W0 at *
    have hT0 : Two w W0 b (b + 1) [] [] := ⟨⟨[], [], hv0, hw0, by simp, by simp, by simp, by simp, by simp⟩, hB0, hbw, by omega, by omega⟩
    clear hv0 hw0 hB0
    go_loopw [7] (fun i wr => ∃ k : Nat, k ≤ s.size ∧ i = .int .i64 k ∧ Two w wr b (b + 1) (byteBits ((bs s).take k)) []) (fun i _ => s.size - (intOf i).toNat)
    case atStart => exact ⟨0, Nat.zero_le _, rfl, hT0⟩
    case round =>
      clear hT0
      obtain ⟨k, hk, rfl, hT⟩ := hrel
      by_cases hlt : k < s.size
      · have hL : (byteBits ((bs s).take k)).length ≤ 99000 := by rw [byteBits_length, List.length_take]; omega
        have hput := two_put hT hL (s[k]'hlt).toNat 8
        rw [put_byte_err _ (s[k]'hlt).toNat_lt, put_byte_bits _ (s[k]'hlt).toNat_lt, ← byteBits_snoc, ← bs_take_succ s k hlt, ← wrap_u8] at hput
        clear hL hT
        go_wp2_with (go_at_call 18; (with_reducible refine hput.mono ?_); rintro e w2 ⟨rfl, hs2⟩)
        go_roundw
        case rel => exact ⟨k + 1, by omega, by go_num, hs2.out⟩
        case measure => simp [intOf]; omega
      · obtain rfl : k = s.size := by omega
        rw [List.take_of_length_le (by rw [bs_length]; omega)] at hT
        obtain ⟨F, G, hW, hV, _⟩ := hT.wr
        have hby := bytes_is _ _ _ _ hW
        rw [packed_byteBits] at hby
        have hbi := bits_is _ _ _ _ hW
        rw [byteBits_length, bs_length] at hbi
        have hcast : ((8 * s.size : Nat) : Int) = 8 * (s.size : Int) := by omega
        rw [hcast] at hbi
        have HT := Lib.hid hT
        clear hT hcast
        go_wp2_with (first | (go_at_call 19; (with_reducible refine hby.mono ?_); rintro e w' ⟨rfl, rfl⟩) | (go_at_call 20; (with_reducible refine hbi.mono ?_); rintro e w' ⟨rfl, rfl⟩))
        clear hby hbi hW hV
        obtain ⟨wo, rfl⟩ : ∃ wo : World, wo = wr := ⟨_, rfl⟩
        go_loopw [8] (fun i wi => ∃ k : Nat, k ≤ n ∧ i = .int .i64 k ∧ Two w wi b (b + 1) (byteBits (bs s) ++ lay (zs.take k)) (lay (zs.take k))) (fun i _ => n - (intOf i).toNat)
        case atStart => exact ⟨0, Nat.zero_le _, rfl, by simpa [lay] using HT.out⟩
        case round =>
          clear HT
          obtain ⟨k, hk, rfl, hT⟩ := hrel
          by_cases hlt : k < n
          · obtain ⟨zl, hzc⟩ := hz
            obtain ⟨g, o, rfl, hg, hcell⟩ := hzc (by omega)
            obtain ⟨⟨x, m⟩, hp⟩ : ∃ p, p = zs.getD k (0, 0) := ⟨_, rfl⟩
            have hw1 := (hcell k hlt).1
            have hw2 := (hcell k hlt).2
            rw [← hp] at hw1 hw2
            have hL : (lay (zs.take k)).length ≤ 3360 := by
              have h1 := lay_length (zs.take k)
              rw [List.length_take] at h1
              omega
            have hL1 : Hid ((byteBits (bs s) ++ lay (zs.take k)).length ≤ 99000) := by
              show (byteBits (bs s) ++ lay (zs.take k)).length ≤ 99000
              rw [List.length_append, byteBits_length, bs_length]; omega
            have hL2 : Hid ((lay (zs.take k)).length ≤ 99000) := by
              show (lay (zs.take k)).length ≤ 99000
              omega
            have hnext := lay_take zs k (by omega)
            rw [← hp] at hnext
            have hTd : Two w wr.drew b (b + 1) (byteBits (bs s) ++ lay (zs.take k)) (lay (zs.take k)) := hT.keep (Keep.drew _ _)
            have hc1 : wr.cell? ⟨g, o + k * 2, none⟩ = some (.int .i64 x) := hT.cell hw1
            have hc2 : wr.cell? ⟨g, o + k * 2 + 1, none⟩ = some (.int .i64 m) := hT.cell hw2
            have HNX := Lib.hid hnext
            have HTD := Lib.hid hTd
            have HW12 := Lib.hid (And.intro hw1 hw2)
            clear hcell hp hnext hL hTd hT hw1 hw2
            go_wp2
            go_region_held3 (fun w' => w'.cell? ⟨g, o + k * 2, none⟩ = some (.int .i64 x) ∧ w'.cell? ⟨g, o + k * 2 + 1, none⟩ = some (.int .i64 m)) (go_keep)
              (first | (go_at_call 18; (with_reducible refine (two_put_cells HTD.out hL1.out x m _ _ _ _ HW12.out.1 HW12.out.2).mono ?_); rintro e w2 ⟨rfl, hd1, hd2, hs2⟩) | (go_at_call 18; (with_reducible refine (two_put_cells' hs2.out hL2.out x m _ _ _ _ HW12.out.1 HW12.out.2).mono ?_); rintro e w3 ⟨rfl, he1, he2, hs3⟩))
            all_goals
              go_wp2
              go_roundw
              case rel => exact ⟨k + 1, by omega, by go_num, by rw [HNX.out, ← List.append_assoc]; exact hs3.out⟩
              case measure => simp [intOf]; omega
          · obtain rfl : k = n := by omega
            have hall : zs.take k = zs := List.take_of_length_le (by rw [hz.1]; omega)
            rw [hall] at hT
            obtain ⟨F, G, hW, hV, _⟩ := hT.wr
            have hby1 := bytes_is _ _ _ _ hW
            rw [packed_append] at hby1
            have hby2 := bytes_is _ _ _ _ hV
            have hbi1 := bits_is _ _ _ _ hW
            have hbi2 := bits_is _ _ _ _ hV
            have hcast : (((byteBits (bs s) ++ lay zs).length : Nat) : Int) = 8 * (s.size : Int) + ((lay zs).length : Int) := by
              rw [List.length_append, byteBits_length, bs_length]; omega
            rw [hcast] at hbi1
            have hbel := hT.below
            have hlz := lay_length zs
            rw [hz.1] at hlz
            have hll : (lay zs).length ≤ 3360 := by omega
            have hsz : (packed (lay zs)).size ≤ 3360 := by rw [← bs_length, bs_packed, Bits.pack_length]; omega
            have n1 : ¬ 9223372036854775807 < s.size + (packed (lay zs)).size := by omega
            clear hT hcast hlz hall hW hV
            go_wp2_with (first | (go_at_call 19; (with_reducible refine hby1.mono ?_); rintro e w' ⟨rfl, rfl⟩) | (go_at_call 19; (with_reducible refine hby2.mono ?_); rintro e w' ⟨rfl, rfl⟩) | (go_at_call 20; (with_reducible refine hbi1.mono ?_); rintro e w' ⟨rfl, rfl⟩) | (go_at_call 20; (with_reducible refine hbi2.mono ?_); rintro e w' ⟨rfl, rfl⟩))
            go_ret
            exact ⟨rfl, hbel⟩
  · by_cases h1 : s.size ≤ 300
    · have h2 : ¬ n ≤ 60 := fun h => h60 ⟨h1, h⟩
      clear h60
      go_enter Try.func7, Try.ntmps7
      go_wp2_with (go_at_call 17; (with_reducible refine (on_base (by assumption) (bitsAwake_is _)).mono ?_); rintro e w1 ⟨rfl, hb1⟩)
      go_ret
      exact ⟨rfl, by assumption⟩
    · clear h60
      go_enter Try.func7, Try.ntmps7
      go_wp2_with (go_at_call 17; (with_reducible refine (on_base (by assumption) (bitsAwake_is _)).mono ?_); rintro e w1 ⟨rfl, hb1⟩)
      go_ret
      exact ⟨rfl, by assumption⟩
end Go.Proofs.Ythhfogpkaeminaa
