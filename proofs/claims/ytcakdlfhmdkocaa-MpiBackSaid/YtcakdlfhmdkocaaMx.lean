/- mpi: there and back: plain laws. -/
import Derived.Test.YtcakdlfhmdkocaaMr
namespace Go.Proofs.Ytcakdlfhmdkocaa

theorem nlen_lt (N : Nat) : N < 256 ^ nlen N := by
  have h := nbits_lt N
  rw [pow256]
  refine Nat.lt_of_lt_of_le h (Nat.pow_le_pow_right (by decide) ?_)
  unfold nlen
  omega
theorem nb_bytesN (N : Nat) : nb (bytesN N) = N := by
  rw [bytesN, nb_be, Nat.mod_eq_of_lt (nlen_lt N)]
theorem nb_be2 {n : Nat} (h : n < 65536) : nb (be 2 n) = n := by
  rw [nb_be, Nat.mod_eq_of_lt (by omega)]
/-- A number is taken as it was put, with all that stands behind it. -/
theorem take_put {N : Nat} (h : nbits N ≤ 16384) (behind : List UInt8) : rTakeF (be 2 (nbits N) ++ bytesN N ++ behind) = (N, behind, 0) := by
  have hl2 : (be 2 (nbits N)).length = 2 := be_length _ _
  have hlb := bytesN_length N
  have e1 : (be 2 (nbits N) ++ bytesN N ++ behind).take 2 = be 2 (nbits N) := by
    rw [List.append_assoc, List.take_append_of_le_length (by omega), List.take_of_length_le (by omega)]
  have e2 : (be 2 (nbits N) ++ bytesN N ++ behind).drop 2 = bytesN N ++ behind := by
    rw [List.append_assoc, List.drop_append_of_le_length (by omega), List.drop_of_length_le (by omega), List.nil_append]
  have e3 : (bytesN N ++ behind).take (nlen N) = bytesN N := by
    rw [List.take_append_of_le_length (by omega), List.take_of_length_le (by omega)]
  have e4 : (be 2 (nbits N) ++ bytesN N ++ behind).drop (2 + nlen N) = behind := by
    rw [List.drop_append_of_le_length (by rw [List.length_append]; omega), List.drop_of_length_le (by rw [List.length_append]; omega), List.nil_append]
  have hlen : (be 2 (nbits N) ++ bytesN N ++ behind).length = 2 + nlen N + behind.length := by rw [List.length_append, List.length_append]; omega
  unfold rTakeF
  rw [e1, nb_be2 (by omega), e2, hlen, if_neg (by omega), if_neg (by omega)]
  have hk : (nbits N + 7) / 8 = nlen N := rfl
  rw [hk, if_neg (by omega), e3, nb_bytesN, if_neg (fun e => e rfl), e4]
/-- Without its last byte it is too short. -/
theorem take_put_short {N : Nat} (h : nbits N ≤ 16384) : (rTakeF ((be 2 (nbits N) ++ bytesN N).take (2 + nlen N - 1))).2.2 = 2 := by
  have hl2 : (be 2 (nbits N)).length = 2 := be_length _ _
  have hlb := bytesN_length N
  have hlen : ((be 2 (nbits N) ++ bytesN N).take (2 + nlen N - 1)).length = 2 + nlen N - 1 := by rw [List.length_take, List.length_append]; omega
  unfold rTakeF
  rw [hlen]
  rcases Nat.eq_zero_or_pos (nlen N) with h0 | hp
  · rw [if_pos (by omega)]
  · have e1 : ((be 2 (nbits N) ++ bytesN N).take (2 + nlen N - 1)).take 2 = be 2 (nbits N) := by
      rw [List.take_take, Nat.min_eq_left (by omega), List.take_append_of_le_length (by omega), List.take_of_length_le (by omega)]
    rw [if_neg (by omega), e1, nb_be2 (by omega), if_neg (by omega)]
    have hk : (nbits N + 7) / 8 = nlen N := rfl
    rw [hk, if_pos (by omega)]
/-- What is taken is put as it was. -/
theorem put_take {l : List UInt8} (h : (rTakeF l).2.2 = 0) : nbits (rTakeF l).1 ≤ 16384 ∧ be 2 (nbits (rTakeF l).1) ++ bytesN (rTakeF l).1 ++ (rTakeF l).2.1 = l := by
  unfold rTakeF at h ⊢
  split at h
  · cases h
  · rename_i h2
    rw [if_neg h2]
    split at h
    · cases h
    · rename_i hb
      rw [if_neg hb]
      split at h
      · cases h
      · rename_i hs
        rw [if_neg hs]
        split at h
        · cases h
        · rename_i hq
          rw [if_neg hq]
          have hq' : nbits (nb ((l.drop 2).take ((nb (l.take 2) + 7) / 8))) = nb (l.take 2) := Decidable.of_not_not hq
          simp only
          have hl : ((l.drop 2).take ((nb (l.take 2) + 7) / 8)).length = (nb (l.take 2) + 7) / 8 := by rw [List.length_take, List.length_drop]; omega
          have e1 : bytesN (nb ((l.drop 2).take ((nb (l.take 2) + 7) / 8))) = (l.drop 2).take ((nb (l.take 2) + 7) / 8) := by
            have hk : nlen (nb ((l.drop 2).take ((nb (l.take 2) + 7) / 8))) = ((l.drop 2).take ((nb (l.take 2) + 7) / 8)).length := by rw [hl]; unfold nlen; rw [hq']
            rw [bytesN, hk, be_nb]
          have e2 : be 2 (nb (l.take 2)) = l.take 2 := by
            have := be_nb (l.take 2)
            rwa [show (l.take 2).length = 2 by rw [List.length_take]; omega] at this
          refine ⟨by omega, ?_⟩
          rw [e1, hq', e2, ← List.drop_drop, List.append_assoc, List.take_append_drop, List.take_append_drop]
theorem rTakeF_err {l : List UInt8} (h : (rTakeF l).2.2 ≠ 0) : (rTakeF l).1 = 0 ∧ (rTakeF l).2.1 = [] := by
  unfold rTakeF at h ⊢
  split
  · exact ⟨rfl, rfl⟩
  · split
    · exact ⟨rfl, rfl⟩
    · split
      · exact ⟨rfl, rfl⟩
      · split
        · exact ⟨rfl, rfl⟩
        · rename_i h1 h2 h3 h4
          rw [if_neg h1, if_neg h2, if_neg h3, if_neg h4] at h
          exact absurd rfl h
end Go.Proofs.Ytcakdlfhmdkocaa
