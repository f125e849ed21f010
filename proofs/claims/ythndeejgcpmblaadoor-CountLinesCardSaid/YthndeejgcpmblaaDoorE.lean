/- The walks of Itoa for one digit; Total; the examples. -/
import Derived.Test.YthndeejgcpmblaaDoorD
namespace Go.Proofs.YthndeejgcpmblaaDoor
open Go.RowKit
set_option linter.unusedSimpArgs false
set_option linter.unusedVariables false

def dg : Nat → ByteArray
  | 1 => ⟨#[49]⟩
  | 2 => ⟨#[50]⟩
  | _ => ⟨#[48]⟩
theorem small_c (n : Nat) (h : n = 1 ∨ n = 2) (w : World) : Calls Tryd.prog 26 #[.int .i64 n] w fun e w' => e = .returned (.string (dg n)) ∧ w = w' := by
  rcases h with rfl | rfl
  all_goals
    go_enter Tryd.func26, Tryd.ntmps26
    go_wp2
    go_ret
    exact ⟨by kernel_rfl, rfl⟩
theorem format_c (n : Nat) (h : n = 1 ∨ n = 2) (w : World) : Calls Tryd.prog 25 #[.int .i64 n, .int .i64 10] w fun e w' => e = .returned (.string (dg n)) ∧ w = w' := by
  have hs := fun w => small_c n h w
  have h1 : (0 : Int) ≤ n := by omega
  have h2 : (n : Int) < 100 := by omega
  clear h
  go_enter Tryd.func25, Tryd.ntmps25
  go_wp2_with (go_at_call 26; refine (hs _).mono ?_; rintro e w' ⟨rfl, rfl⟩)
  go_ret
  exact ⟨rfl, rfl⟩
theorem iitoa_c (n : Nat) (h : n = 1 ∨ n = 2) (w : World) : Calls Tryd.prog 24 #[.int .i64 n] w fun e w' => e = .returned (.string (dg n)) ∧ w = w' := by
  have hs := fun w => format_c n h w
  clear h
  go_enter Tryd.func24, Tryd.ntmps24
  go_wp2_with (go_at_call 25; refine (hs _).mono ?_; rintro e w' ⟨rfl, rfl⟩)
  go_ret
  exact ⟨rfl, rfl⟩
theorem itoa_c (n : Nat) (h : n = 1 ∨ n = 2) (w : World) : Calls Tryd.prog 22 #[.int .i64 n] w fun e w' => e = .returned (.string (dg n)) ∧ Below w.heap.size w w' := by
  have hs := fun w => iitoa_c n h w
  clear h
  go_enter Tryd.func22, Tryd.ntmps22
  go_wp2_with (go_at_call 24; refine (hs _).mono ?_; rintro e w' ⟨rfl, rfl⟩)
  go_ret
  exact ⟨rfl, Below.refl _ _⟩

/-- What the reasons to come were counted, together. -/
def left (f : Nat → Nat) (L : Lit → Bool) : Nat → Nat
  | 0 => 0
  | k + 1 => left f L k + if L (.int .i64 k) then f k else 0
theorem left_congr (f : Nat → Nat) {L M : Lit → Bool} (h : ∀ k : Nat, L (.int .i64 k) = M (.int .i64 k)) : ∀ n, left f L n = left f M n
  | 0 => rfl
  | n + 1 => by unfold left; rw [left_congr f h n, h n]
theorem left_none (f : Nat → Nat) {L : Lit → Bool} (h : ∀ k : Nat, L (.int .i64 k) = false) : ∀ n, left f L n = 0
  | 0 => rfl
  | n + 1 => by unfold left; rw [left_none f h n, h n]; rfl
theorem left_above (f : Nat → Nat) {L M : Lit → Bool} (x : Nat) (h : ∀ k : Nat, k ≠ x → L (.int .i64 k) = M (.int .i64 k)) : ∀ n, n ≤ x → left f L n = left f M n
  | 0, _ => rfl
  | n + 1, hn => by unfold left; rw [left_above f x h n (by omega), h n (by omega)]
theorem left_take (f : Nat → Nat) {L M : Lit → Bool} (x : Nat) (h : ∀ k : Nat, k ≠ x → L (.int .i64 k) = M (.int .i64 k)) (hL : L (.int .i64 x) = true) (hM : M (.int .i64 x) = false) : ∀ n, x < n → left f L n = left f M n + f x
  | 0, hn => by omega
  | n + 1, hn => by
    by_cases e : n = x
    · subst e
      unfold left
      rw [left_above f n h n (Nat.le_refl _), hL, hM]
      simp
    · have := left_take f x h hL hM n (by omega)
      unfold left
      rw [this, h n e]
      omega
def sum (f : Nat → Nat) : Nat := left f (fun _ => true) 22
theorem left_le (f : Nat → Nat) (L : Lit → Bool) (hi : Nat) (h : ∀ k, f k ≤ hi) : ∀ n, left f L n ≤ n * hi
  | 0 => by simp [left]
  | n + 1 => by
    have := left_le f L hi h n
    have := h n
    unfold left
    rw [Nat.add_mul]
    split <;> omega

theorem left_eq (f : Nat → Nat) {L M : Lit → Bool} : ∀ n, (∀ k : Nat, k < n → L (.int .i64 k) ≠ M (.int .i64 k) → f k = 0) → left f L n = left f M n
  | 0, _ => rfl
  | n + 1, h => by
    unfold left
    rw [left_eq f n (fun k hk => h k (by omega))]
    by_cases e : L (.int .i64 n) = M (.int .i64 n)
    · rw [e]
    · rw [h n (by omega) e]; simp

theorem ct_pick {M : Lit → Option Value} {f : Nat → Nat} (hi : Nat) (hM : ∀ k : Nat, k < 22 → (M (.int .i64 k)).getD (.int .i64 0) = .int .i64 (f k)) (hK : ∀ kl v, M kl = some v → ∃ k : Nat, k < 22 ∧ kl = .int .i64 k) (hS : ∀ k, f k ≤ hi) {kl : Lit} {cv : Int} (h : M kl = some (.int .i64 cv)) :
    ∃ k : Nat, Hid (k < 22 ∧ kl = .int .i64 k ∧ cv = (f k : Int)) ∧ 0 ≤ cv ∧ cv ≤ hi := by
  obtain ⟨k, hk, rfl⟩ := hK kl _ h
  have := hM k hk
  rw [h] at this
  simp at this
  subst this
  exact ⟨k, ⟨hk, rfl, rfl⟩, by omega, by have := hS k; omega⟩
set_option maxHeartbeats 800000 in
theorem total_c (cb mb hi : Nat) (f : Nat → Nat) (w : World) (hh : hi < 65536) (h : Ct w cb mb hi f) : Calls Tryd.prog 18 #[.pointer (some ⟨cb, 0, none⟩)] w fun e w' => e = .returned (.int .i64 (sum f)) ∧ Below w.heap.size w w' := by
  have c0 := h.head.cell 0
  have hsm := h.small
  obtain ⟨nm, M, hn, g, hM, hK⟩ := h.map
  have hval : ∀ kl v, M kl = some v → ∃ c : Int, v = Value.int .i64 c := by
    intro kl v hv
    obtain ⟨k, hk, rfl⟩ := hK kl v hv
    have := hM k hk
    rw [hv] at this
    exact ⟨_, this⟩
  have hle := left_le f (fun _ => true) hi hsm 22
  have HM := Lib.hid hM
  have HK := Lib.hid hK
  have HV := Lib.hid hval
  have HSM := Lib.hid hsm
  clear hM hK hval h hsm
  go_enter Tryd.func18, Tryd.ntmps18
  go_wp2_with (at_range; go_loud (refine wpList_gm_range _ rfl _ _ rfl keyed25 Tryd.underlying49 rfl g ?_; intro w2 R hb2 hs2))
  clear c0 g
  go_frame
  go_loopw [3] (fun s wr => ∃ L cnt, GRange Tryd.prog wr 25 mb w.heap.size M L cnt ∧ Below w.heap.size w wr ∧ (∀ kl, L kl = true → (M kl).isSome = true) ∧ ∃ q : Nat, s = .int .i64 q ∧ q + left f L 22 = sum f) (fun _ wr => wr.rangeLeft mb w.heap.size)
  case atStart =>
    refine ⟨_, _, R, hb2, fun _ h => h, 0, rfl, ?_⟩
    rw [Nat.zero_add]
    refine left_eq f 22 fun k hk hne => ?_
    have hm := HM.out k hk
    cases hv : M (.int .i64 k) with
    | none => rw [hv] at hm; simp at hm; omega
    | some v => rw [hv] at hne; simp at hne
  case round =>
    obtain ⟨L, cn, R2, hb3, hL, q, rfl, hq⟩ := hrel
    have hql : q ≤ 22 * hi := by unfold sum at hq; omega
    have HQ := Lib.hid hq
    clear hq
    go_wp2_with (at_next; go_loud (refine wpList_gm_next (α := Int) (β := Int) _ rfl _ rfl keyed25 (Value.int .i64) (Value.int .i64) (fun key kl hk => by obtain ⟨x, h, _⟩ := Maps.keyOf_int_inv Tryd.underlying25 hk; exact ⟨x, h⟩) rfl R2 R2.lt HV.out hL (fun hdone => ?_) (fun x cv kl w3 cnt' hk hlk hM2 R3 hlt hbB hs3 hen => (ct_pick hi HM.out HK.out HSM.out hM2).elim fun kx ⟨hpk, hc0, hc1⟩ => ?_)))
    · go_ret
      refine ⟨?_, hb3⟩
      have := HQ.out
      rw [left_none f (fun k => hdone _)] at this
      rw [← this]
      rfl
    · obtain ⟨hk22, rfl, hcv⟩ := hpk.out
      obtain rfl : x = (kx : Int) := by
        obtain ⟨_, e1, e2, _⟩ := Maps.keyOf_int_inv Tryd.underlying25 hk
        cases e1; cases e2; rfl
      go_roundw
      case rel =>
        refine ⟨_, _, R3, hb3.trans (hbB _ (Nat.le_refl _)), fun kl h => hL kl (by simp at h; exact h.1), q + f kx, by rw [hcv]; go_num, ?_⟩
        have e := left_take f (L := L) (M := fun z => L z && !z.sameKey (.int .i64 kx)) kx (fun k hk => by simp [Lit.sameKey]; intro _ hh; exact hk (by omega)) hlk (by simp [Lit.sameKey]) 22 hk22
        have := HQ.out
        omega
      case measure => rw [R3.left_eq, R2.left_eq]; exact hlt

theorem dg_size (n : Nat) : (dg n).size ≤ 100 := by
  unfold dg
  split <;> exact (by decide)
theorem exF_one (k : Nat) (h : 0 < inc (inc (inc (fun x => 0) 0) 7) 7 k) : inc (inc (inc (fun x => 0) 0) 7) 7 k = 1 ∨ inc (inc (inc (fun x => 0) 0) 7) 7 k = 2 := by
  unfold inc at *
  by_cases h7 : k = 7
  · simp [h7]
  · by_cases h0 : k = 0
    · simp [h0]
    · simp [h7, h0] at h
theorem ex_ln : ln dg (inc (inc (inc (fun x => 0) 0) 7) 7) 22 = [⟨#[111, 107, 32, 49]⟩, ⟨#[115, 117, 109, 32, 50]⟩] := by kernel_rfl
theorem own_shape {w : World} {base : Nat} {e size n g : Nat} {v : Value} {xs : List Value} (h : w.ownsRow base e size v n xs) (ho : v.ownBlock = some g) : ∃ c, v = .slice (some ⟨g, 0, none⟩) n c := by
  rcases h.2 with ⟨rfl, _⟩ | ⟨g', cap, cur, rfl, _⟩
  · simp [Value.ownBlock] at ho
  · simp [Value.ownBlock] at ho
    subst ho
    exact ⟨cap, rfl⟩
set_option maxRecDepth 100000 in
set_option maxHeartbeats 1600000 in
theorem examples_c (w : World) : Calls Tryd.prog 8 #[] w fun e w' => e = .returned (.bool true) ∧ Below w.heap.size w w' := by
  go_enter Tryd.func8, Tryd.ntmps8
  go_wp2_with fail
  refine (name_c 7 _).mono ?_
  rintro e w1 ⟨rfl, hb1⟩
  rw [show nameS 7 = ⟨#[115, 117, 109]⟩ from rfl, show nameB 7 = true from rfl]
  go_wp2_with fail
  refine (parse_c ⟨#[102, 111, 114, 109]⟩ _).mono ?_
  rintro e w2 ⟨r, hr, rfl, hb⟩
  have er : r = 21 := by
    refine hr.unique (.inr ⟨21, by omega, rfl, rfl, fun l hl => ?_⟩)
    match l, hl with
    | 0, _ => exact (by decide)
    | 1, _ => exact (by decide)
    | 2, _ => exact (by decide)
    | 3, _ => exact (by decide)
    | 4, _ => exact (by decide)
    | 5, _ => exact (by decide)
    | 6, _ => exact (by decide)
    | 7, _ => exact (by decide)
    | 8, _ => exact (by decide)
    | 9, _ => exact (by decide)
    | 10, _ => exact (by decide)
    | 11, _ => exact (by decide)
    | 12, _ => exact (by decide)
    | 13, _ => exact (by decide)
    | 14, _ => exact (by decide)
    | 15, _ => exact (by decide)
    | 16, _ => exact (by decide)
    | 17, _ => exact (by decide)
    | 18, _ => exact (by decide)
    | 19, _ => exact (by decide)
    | 20, _ => exact (by decide)
    | n + 21, h => exact absurd h (by omega)
  subst er
  rw [show posI 21 = 21 from rfl]
  have hb2 := hb1.trans (hb.mono hb1.size)
  clear hb hb1 hr
  go_wp2_with fail
  refine (new_c _).mono ?_
  rintro e w3 ⟨rfl, C3, hb⟩
  have hb3 := hb2.trans (hb.mono hb2.size)
  have hs2 := hb2.size
  clear hb hb2
  go_wp2_with fail
  refine (add_c _ _ _ _ 0 (by omega) (by omega) _ C3).mono ?_
  rintro e w4 ⟨rfl, C4, hb⟩
  have hb4 := hb3.trans (hb _ (by omega) hs2)
  clear hb hb3 C3
  go_wp2_with fail
  refine (add_c _ _ _ _ 7 (by omega) (by omega) _ C4).mono ?_
  rintro e w5 ⟨rfl, C5, hb⟩
  have hb5 := hb4.trans (hb _ (by omega) hs2)
  clear hb hb4 C4
  go_wp2_with fail
  refine (add_c _ _ _ _ 7 (by omega) (by omega) _ C5).mono ?_
  rintro e w6 ⟨rfl, C6, hb⟩
  have hb6 := hb5.trans (hb _ (by omega) hs2)
  clear hb hb5 C5
  go_wp2_with fail
  refine (lines_c _ _ _ _ dg _ C6 (fun k _ _ => dg_size _) (fun k hk hp w _ => itoa_c _ (exF_one k hp) w)).mono ?_
  rintro e w7 ⟨v, rfl, hown, hb⟩
  have hb7 := hb6.trans (hb.mono hb6.size)
  have C7 := C6.below hb
  rw [show ln dg (inc (inc (inc (fun x => 0) 0) 7) 7) 22 = [⟨#[111, 107, 32, 49]⟩, ⟨#[115, 117, 109, 32, 50]⟩] from ex_ln] at hown
  obtain ⟨g, hg⟩ : ∃ g, v.ownBlock = some g := by
    rcases hown.2 with ⟨_, q⟩ | ⟨g, cap, cur, rfl, _⟩
    · simp at q
    · exact ⟨g, rfl⟩
  obtain ⟨cc, hv⟩ := own_shape hown hg
  have k0 := hown.cells hg 0 _ rfl
  have k1 := hown.cells hg 1 _ rfl
  rw [add_none] at k0 k1
  rw [hv]
  clear hown hg hv hb hb6 C6
  go_wp2_with fail
  refine (total_c _ _ _ _ _ (by omega) C7).mono ?_
  rintro e w8 ⟨rfl, hb⟩
  have hb8 := hb7.trans (hb.mono hb7.size)
  rw [show sum (inc (inc (inc (fun x => 0) 0) 7) 7) = 3 from rfl]
  clear hb hb7 C7 k0 k1
  go_wp2
  go_ret
  exact ⟨rfl, hb8⟩
end Go.Proofs.YthndeejgcpmblaaDoor
