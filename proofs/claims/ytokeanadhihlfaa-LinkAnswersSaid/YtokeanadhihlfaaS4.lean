import Derived.Test.YtokeanadhihlfaaPlans
import Derived.Test.YtokeanadhihlfaaMB
import Derived.Test.YtokeanadhihlfaaProg
import Derived.Test.YtokeanadhihlfaaS0
import Derived.Test.YtokeanadhihlfaaS1
import Derived.Test.YtokeanadhihlfaaS2
import Derived.Test.YtokeanadhihlfaaS3
import Derived.Test.YtokeanadhihlfaaB1
import Derived.KernelRfl
set_option linter.all false
set_option maxHeartbeats 1000000
namespace Go.Proofs.Ytokeanadhihlfaa.V
open Go
def pm23 : Pm := ⟨[.s, .s, .i .u8], .no, [.r 0, .s]⟩
def u23 : List (Nat × Tr) := [(53, S53)]
theorem a23 : AllKeep Proofs.Try.prog u23 := ⟨k53, trivial⟩

def kp23_8 : List (Loc × Keep) := [(.t 0, .shp .s), (.t 9, .own 900 (.lr 38 0)), (.t 10, .shp .s), (.t 11, .shp (.i .u8))]
def tr23_8 : Trim := .some [9] [900] [] []
def L23_8 : LTr
  | ⟨[(0, .int .u32 ch), (9, .ownf 900), (10, .int .i64 q), (11, .ints false .u8 r)], [(900, .linr 38 0 ps)]⟩, k => chk (decide (0 ≤ q ∧ q + r.length ≤ 1000000 ∧ ps.length + r.length ≤ 1000000)) (k (.exit 0) ⟨[(9, .ownf 900)], [(900, .linr 38 0 (ps ++ conts ch q r))]⟩)
  | _, _ => False
def c23_0 : Cfg := { n := 59, Γ := Gam, C := ofL u23, pm := pmL [(53, pm53)], plan := plan23, L := lpL [], unroll := nmL [], keep := kpL [(8, kp23_8)] }
def c23 : Cfg := { n := 59, Γ := Gam, C := ofL u23, pm := pmL [(53, pm53)], plan := plan23, L := lpL [(8, L23_8)], unroll := nmL [], keep := kpL [(8, kp23_8)] }
def S23 : Tr
  | [.int .u32 ch, .int .i64 cmd, .ints false .u8 b], none, post => post (.tup [.rs false 0 (splitL ch cmd b), .int .i64 (splitE cmd b.length)]) none
  | _, _, _ => False
theorem t23_0 (ch cmd : Int) (b : List Int) (post : AV → Option AV → Prop) : runF c23 pm23 Proofs.Try.f23 [.int .u32 ch, .int .i64 cmd, .ints false .u8 b] none post = (br (decide (cmd < (1 : Int))) (post (AV.tup [AV.rs false (0 : Nat) [], AV.int IntKind.i64 (9 : Int)]) none)
     (br (decide (cmd > (127 : Int))) (post (AV.tup [AV.rs false (0 : Nat) [], AV.int IntKind.i64 (9 : Int)]) none)
     (br (decide (@Nat.cast Int _ b.length > (4096 : Int)))
     (post (AV.tup [AV.rs false (0 : Nat) [], AV.int IntKind.i64 (8 : Int)]) none)
     (chk (cutB b.length none (some (imin (@Nat.cast Int _ b.length) (57 : Int))))
     (chk
     (decide
     ((0 : Nat) + (List.take (imin (@Nat.cast Int _ b.length) (57 : Int)).toNat b).length ≤ (1099511627776 : Nat)))
     (chk (cutB b.length (some (imin (@Nat.cast Int _ b.length) (57 : Int))) none)
     (chk
     (decide
     ((0 : Int) ≤ (0 : Int) ∧
     (0 : Int) + @Nat.cast Int _ (List.drop (imin (@Nat.cast Int _ b.length) (57 : Int)).toNat b).length ≤
     (1000000 : Int) ∧
     [Rec.mk ch cmd (@Nat.cast Int _ b.length) (0 : Int) true
     ([] ++ List.take (imin (@Nat.cast Int _ b.length) (57 : Int)).toNat b)].length +
     (List.drop (imin (@Nat.cast Int _ b.length) (57 : Int)).toNat b).length ≤
     (1000000 : Nat)))
     (post
     (AV.tup
     [AV.rs false (0 : Nat)
     ([Rec.mk ch cmd (@Nat.cast Int _ b.length) (0 : Int) true
     ([] ++ List.take (imin (@Nat.cast Int _ b.length) (57 : Int)).toNat b)] ++
     conts ch (0 : Int) (List.drop (imin (@Nat.cast Int _ b.length) (57 : Int)).toNat b)),
     AV.int IntKind.i64 (0 : Int)])
     none)))))))) := by kernel_rfl
theorem q23_8 (ch q : Int) (r : List Int) (ps : List Rec) (k : Out → AS → Prop) : stepL c23_0 kp23_8 tr23_8 (loopAt Proofs.Try.f23 8) ⟨[(0, .int .u32 ch), (9, .ownf 900), (10, .int .i64 q), (11, .ints false .u8 r)], [(900, .linr 38 0 ps)]⟩ k = (br (decide (@Nat.cast Int _ r.length > (0 : Int)))
     (chk (cutB r.length none (some (imin (@Nat.cast Int _ r.length) (59 : Int))))
     (chk
     (decide ((0 : Nat) + (List.take (imin (@Nat.cast Int _ r.length) (59 : Int)).toNat r).length ≤ (1099511627776 : Nat)))
     (chk
     (decide
     (ps.length +
     [Rec.mk ch (0 : Int) (0 : Int) q false
     ([] ++ List.take (imin (@Nat.cast Int _ r.length) (59 : Int)).toNat r)].length ≤
     (1099511627776 : Nat)))
     (chk (cutB r.length (some (imin (@Nat.cast Int _ r.length) (59 : Int))) none)
     (k Out.normal
     (AS.mk
     [((0 : Nat), AV.int IntKind.u32 ch), ((9 : Nat), AV.ownf (900 : Nat)),
     ((10 : Nat), AV.int IntKind.i64 (IntKind.i64.wrap (q + (1 : Int)))),
     ((11 : Nat), AV.ints false IntKind.u8 (List.drop (imin (@Nat.cast Int _ r.length) (59 : Int)).toNat r))]
     [((900 : Nat),
     AV.linr (38 : Nat) (0 : Nat)
     (ps ++
     [Rec.mk ch (0 : Int) (0 : Int) q false
     ([] ++ List.take (imin (@Nat.cast Int _ r.length) (59 : Int)).toNat r)]))]))))))
     (k (Out.exit (0 : Nat)) (AS.mk [((9 : Nat), AV.ownf (900 : Nat))] [((900 : Nat), AV.linr (38 : Nat) (0 : Nat) ps)]))) := by kernel_rfl

theorem i23_8 (k : Out → AS → Prop) (fuel : Nat) : ∀ (ch q : Int) (r : List Int) (ps : List Rec), r.length < fuel → (0 ≤ q ∧ q + r.length ≤ 1000000 ∧ ps.length + r.length ≤ 1000000) → (k (.exit 0) ⟨[(9, .ownf 900)], [(900, .linr 38 0 (ps ++ conts ch q r))]⟩) → iterL (stepL c23_0 kp23_8 tr23_8 (loopAt Proofs.Try.f23 8)) k fuel ⟨[(0, .int .u32 ch), (9, .ownf 900), (10, .int .i64 q), (11, .ints false .u8 r)], [(900, .linr 38 0 ps)]⟩ := by
  induction fuel with
  | zero => intro ch q r ps hm; omega
  | succ fuel ih =>
    intro ch q r ps hm hp hk
    simp only [iterL]
    rw [q23_8]
    dsimp only
    refine br_dec (fun hc => ?_) (fun hc => ?_)
    · have hm := imin_le r.length 59 (by omega)
      rw [take_imin, drop_imin, wrap_i64 (n := q + 1) (by omega) (by omega)]
      rw [conts_step _ _ _ (by omega)] at hk
      refine chk_of (cut_hi (by omega) (by omega)) (chk_dec (by simp; omega) (chk_dec (by simp; omega) (chk_of (cut_lo (by omega) (by omega)) ?_)))
      refine ih _ _ _ _ (by simp; omega) (by simp; omega) (k_of hk ?_)
      simp
    · obtain rfl : r = [] := List.eq_nil_of_length_eq_zero (by omega)
      refine k_of hk ?_
      simp [conts_nil]
theorem l23_8 : ∀ s k, L23_8 s k → Tri Proofs.Try.prog 59 (.loop (loopAt Proofs.Try.f23 8)) s k := by
  intro s k h
  unfold L23_8 at h
  split at h
  · obtain ⟨h1, h2⟩ := chk_iff.1 h
    exact iter_ok (c := c23_0) gam_ok (l := u23) a23 rfl mixed_ok (by kernel_rfl) (ls := []) rfl (.inl rfl) trivial (kps := kp23_8) (tr := tr23_8) (_) (i23_8 k _ _ _ _ _ (Nat.lt_succ_self _) (of_decide_eq_true h1) h2)
  · exact h.elim
theorem p23_0 (ch cmd : Int) (b : List Int) (post : AV → Option AV → Prop) (hin : InRL [.int .u32 ch, .int .i64 cmd, .ints false .u8 b]) (hie : InRO none) (h : post (.tup [.rs false 0 (splitL ch cmd b), .int .i64 (splitE cmd b.length)]) none) : Ok (runF c23 pm23 Proofs.Try.f23 [.int .u32 ch, .int .i64 cmd, .ints false .u8 b] none (post)) := by
  refine ⟨?_⟩
  rw [t23_0]
  have e0 : ∀ x, splitE cmd b.length = x → x ≠ 0 → post (.tup [.rs false 0 [], .int .i64 x]) none := fun x hx h0 => post_of h (by rw [splitL, if_pos (by rw [hx]; exact h0), hx]) rfl
  refine br_dec (fun hc => e0 _ (by rw [splitE, if_pos (by omega)]) (by decide)) (fun hc => ?_)
  refine br_dec (fun hc => e0 _ (by rw [splitE, if_pos (by omega)]) (by decide)) (fun hc => ?_)
  refine br_dec (fun hc => e0 _ (by rw [splitE, if_neg (by omega), if_pos (by omega)]) (by decide)) (fun hc => ?_)
  have he : splitE cmd b.length = 0 := by rw [splitE, if_neg (by omega), if_neg (by omega)]
  have hm := imin_le b.length 57 (by omega)
  rw [splitL, if_neg (by rw [he]; decide), he] at h
  rw [take_imin, drop_imin]
  refine chk_of (cut_hi (by omega) (by omega)) (chk_dec (by simp; omega) ?_)
  refine chk_of (cut_lo (by omega) (by omega)) (chk_dec (by simp; omega) ?_)
  exact h
theorem k23 : Keeps Proofs.Try.prog 23 S23 := by
  refine ⟨?_, Proofs.Try.f23, by kernel_rfl, by kernel_rfl, by kernel_rfl⟩
  intro args e post h
  unfold S23 at h
  split at h
  · refine Spec.inR fun hin hie => fun_ok' (c := c23) gam_ok (l := u23) a23 rfl mixed_ok (fn := Proofs.Try.f23) (show Proofs.Try.prog.funcs[23]? = some Proofs.Try.f23 by kernel_rfl) (by kernel_rfl) (ls := [(8, L23_8)]) rfl (.inr (by kernel_rfl)) ⟨l23_8, trivial⟩ (pm := pm23) (by simp [c23]) (by rintro ⟨t, l, h⟩; cases h) ?_
    exact p23_0 _ _ _ _ hin hie h
  · exact h.elim
def pm24 : Pm := ⟨[.s, .s, .i .u8], .no, [.r 0, .s]⟩
def u24 : List (Nat × Tr) := []
theorem a24 : AllKeep Proofs.Try.prog u24 := trivial

def kp24_8 : List (Loc × Keep) := [(.t 0, .shp .s), (.t 2, .shp (.i .u8)), (.t 8, .shp .s), (.t 9, .own 900 (.lr 38 0)), (.t 10, .shp .s)]
def tr24_8 : Trim := .some [9] [900] [] []
def L24_8 : LTr
  | ⟨[(0, .int .u32 ch), (2, .ints false .u8 b), (8, .int .i64 n), (9, .ownf 900), (10, .int .i64 q)], [(900, .linr 38 0 ps)]⟩, k => chk (decide (0 ≤ n ∧ n ≤ b.length ∧ b.length ≤ 100000 ∧ 0 ≤ q ∧ q + (b.length - n) ≤ 1000000 ∧ ps.length + (b.length - n) ≤ 1000000)) (k (.exit 0) ⟨[(9, .ownf 900)], [(900, .linr 38 0 (ps ++ conts ch q (b.drop n.toNat)))]⟩)
  | _, _ => False
def c24_0 : Cfg := { n := 62, Γ := Gam, C := ofL u24, pm := pmL [], plan := noP, L := lpL [], unroll := nmL [], keep := kpL [(8, kp24_8)] }
def c24 : Cfg := { n := 62, Γ := Gam, C := ofL u24, pm := pmL [], plan := noP, L := lpL [(8, L24_8)], unroll := nmL [], keep := kpL [(8, kp24_8)] }
def S24 : Tr
  | [.int .u32 ch, .int .i64 cmd, .ints false .u8 b], none, post => post (.tup [.rs false 0 (splitL ch cmd b), .int .i64 (splitE cmd b.length)]) none
  | _, _, _ => False
theorem t24_0 (ch cmd : Int) (b : List Int) (post : AV → Option AV → Prop) : runF c24 pm24 Proofs.Try.f24 [.int .u32 ch, .int .i64 cmd, .ints false .u8 b] none post = (br (decide (cmd < (1 : Int))) (post (AV.tup [AV.rs false (0 : Nat) [], AV.int IntKind.i64 (9 : Int)]) none)
     (br (decide (cmd > (127 : Int))) (post (AV.tup [AV.rs false (0 : Nat) [], AV.int IntKind.i64 (9 : Int)]) none)
     (br (decide (@Nat.cast Int _ b.length > (4096 : Int)))
     (post (AV.tup [AV.rs false (0 : Nat) [], AV.int IntKind.i64 (8 : Int)]) none)
     (chk (cutB b.length none (some (imin (@Nat.cast Int _ b.length) (57 : Int))))
     (chk (decide ((List.take (imin (@Nat.cast Int _ b.length) (57 : Int)).toNat b).length ≤ (1099511627776 : Nat)))
     (chk
     (decide
     ((0 : Int) ≤ imin (@Nat.cast Int _ b.length) (57 : Int) ∧
     imin (@Nat.cast Int _ b.length) (57 : Int) ≤ @Nat.cast Int _ b.length ∧
     b.length ≤ (100000 : Nat) ∧
     (0 : Int) ≤ (0 : Int) ∧
     (0 : Int) + (@Nat.cast Int _ b.length - imin (@Nat.cast Int _ b.length) (57 : Int)) ≤ (1000000 : Int) ∧
     @Nat.cast Int _
     [Rec.mk ch cmd (@Nat.cast Int _ b.length) (0 : Int) true
     (List.take (imin (@Nat.cast Int _ b.length) (57 : Int)).toNat b)].length +
     (@Nat.cast Int _ b.length - imin (@Nat.cast Int _ b.length) (57 : Int)) ≤
     (1000000 : Int)))
     (post
     (AV.tup
     [AV.rs false (0 : Nat)
     ([Rec.mk ch cmd (@Nat.cast Int _ b.length) (0 : Int) true
     (List.take (imin (@Nat.cast Int _ b.length) (57 : Int)).toNat b)] ++
     conts ch (0 : Int) (List.drop (imin (@Nat.cast Int _ b.length) (57 : Int)).toNat b)),
     AV.int IntKind.i64 (0 : Int)])
     none))))))) := by kernel_rfl
theorem q24_8 (ch q n : Int) (b : List Int) (ps : List Rec) (k : Out → AS → Prop) : stepL c24_0 kp24_8 tr24_8 (loopAt Proofs.Try.f24 8) ⟨[(0, .int .u32 ch), (2, .ints false .u8 b), (8, .int .i64 n), (9, .ownf 900), (10, .int .i64 q)], [(900, .linr 38 0 ps)]⟩ k = (br (decide (n < @Nat.cast Int _ b.length))
     (chk
     (cutB b.length (some n) (some (IntKind.i64.wrap (n + imin (IntKind.i64.wrap (@Nat.cast Int _ b.length - n)) (59 : Int)))))
     (chk
     (decide
     ((List.take
     ((IntKind.i64.wrap (n + imin (IntKind.i64.wrap (@Nat.cast Int _ b.length - n)) (59 : Int))).toNat - n.toNat)
     (List.drop n.toNat b)).length ≤
     (1099511627776 : Nat)))
     (chk
     (decide
     (ps.length +
     [Rec.mk ch (0 : Int) (0 : Int) q false
     (List.take
     ((IntKind.i64.wrap (n + imin (IntKind.i64.wrap (@Nat.cast Int _ b.length - n)) (59 : Int))).toNat -
     n.toNat)
     (List.drop n.toNat b))].length ≤
     (1099511627776 : Nat)))
     (k Out.normal
     (AS.mk
     [((0 : Nat), AV.int IntKind.u32 ch), ((2 : Nat), AV.ints false IntKind.u8 b),
     ((8 : Nat),
     AV.int IntKind.i64
     (IntKind.i64.wrap (n + imin (IntKind.i64.wrap (@Nat.cast Int _ b.length - n)) (59 : Int)))),
     ((9 : Nat), AV.ownf (900 : Nat)), ((10 : Nat), AV.int IntKind.i64 (IntKind.i64.wrap (q + (1 : Int))))]
     [((900 : Nat),
     AV.linr (38 : Nat) (0 : Nat)
     (ps ++
     [Rec.mk ch (0 : Int) (0 : Int) q false
     (List.take
     ((IntKind.i64.wrap (n + imin (IntKind.i64.wrap (@Nat.cast Int _ b.length - n)) (59 : Int))).toNat -
     n.toNat)
     (List.drop n.toNat b))]))])))))
     (k (Out.exit (0 : Nat)) (AS.mk [((9 : Nat), AV.ownf (900 : Nat))] [((900 : Nat), AV.linr (38 : Nat) (0 : Nat) ps)]))) := by kernel_rfl

theorem i24_8 (k : Out → AS → Prop) (fuel : Nat) : ∀ (ch q n : Int) (b : List Int) (ps : List Rec), (b.length - n).toNat < fuel → (0 ≤ n ∧ n ≤ b.length ∧ b.length ≤ 100000 ∧ 0 ≤ q ∧ q + (b.length - n) ≤ 1000000 ∧ ps.length + (b.length - n) ≤ 1000000) → (k (.exit 0) ⟨[(9, .ownf 900)], [(900, .linr 38 0 (ps ++ conts ch q (b.drop n.toNat)))]⟩) → iterL (stepL c24_0 kp24_8 tr24_8 (loopAt Proofs.Try.f24 8)) k fuel ⟨[(0, .int .u32 ch), (2, .ints false .u8 b), (8, .int .i64 n), (9, .ownf 900), (10, .int .i64 q)], [(900, .linr 38 0 ps)]⟩ := by
  induction fuel with
  | zero => intro ch q n b ps hm; omega
  | succ fuel ih =>
    intro ch q n b ps hm hp hk
    simp only [iterL]
    rw [q24_8]
    dsimp only
    refine br_dec (fun hc => ?_) (fun hc => ?_)
    · have hl : (b.length : Int) - n = ((b.drop n.toNat).length : Nat) := by simp; omega
      have hm := imin_le (b.drop n.toNat).length 59 (by omega)
      rw [wrap_i64 (n := (b.length : Int) - n) (by omega) (by omega), hl, wrap_i64 (n := q + 1) (by omega) (by omega), wrap_i64 (n := n + _) (by omega) (by omega), show (n + imin ((b.drop n.toNat).length : Nat) 59).toNat - n.toNat = (imin ((b.drop n.toNat).length : Nat) 59).toNat by omega, take_imin]
      rw [conts_step _ _ _ (by omega)] at hk
      refine chk_of (cut_both (by omega) (by omega) (by omega)) (chk_dec (by simp; omega) (chk_dec (by simp; omega) ?_))
      have hp : 0 < imin ((b.drop n.toNat).length : Nat) 59 := by unfold imin; split <;> omega
      refine ih _ _ _ _ _ (by omega) (by simp only [List.length_append, List.length_cons, List.length_nil]; omega) (k_of hk ?_)
      rw [show (n + imin ((b.drop n.toNat).length : Nat) 59).toNat = n.toNat + (imin ((b.drop n.toNat).length : Nat) 59).toNat by omega, ← List.drop_drop, drop_imin]
      simp
    · refine k_of hk ?_
      rw [List.drop_of_length_le (by omega), conts_nil, List.append_nil]
theorem l24_8 : ∀ s k, L24_8 s k → Tri Proofs.Try.prog 62 (.loop (loopAt Proofs.Try.f24 8)) s k := by
  intro s k h
  unfold L24_8 at h
  split at h
  · obtain ⟨h1, h2⟩ := chk_iff.1 h
    exact iter_ok (c := c24_0) gam_ok (l := u24) a24 rfl mixed_ok (by kernel_rfl) (ls := []) rfl (.inl rfl) trivial (kps := kp24_8) (tr := tr24_8) (_) (i24_8 k _ _ _ _ _ _ (Nat.lt_succ_self _) (of_decide_eq_true h1) h2)
  · exact h.elim
theorem p24_0 (ch cmd : Int) (b : List Int) (post : AV → Option AV → Prop) (hin : InRL [.int .u32 ch, .int .i64 cmd, .ints false .u8 b]) (hie : InRO none) (h : post (.tup [.rs false 0 (splitL ch cmd b), .int .i64 (splitE cmd b.length)]) none) : Ok (runF c24 pm24 Proofs.Try.f24 [.int .u32 ch, .int .i64 cmd, .ints false .u8 b] none (post)) := by
  refine ⟨?_⟩
  rw [t24_0]
  have e0 : ∀ x, splitE cmd b.length = x → x ≠ 0 → post (.tup [.rs false 0 [], .int .i64 x]) none := fun x hx h0 => post_of h (by rw [splitL, if_pos (by rw [hx]; exact h0), hx]) rfl
  refine br_dec (fun hc => e0 _ (by rw [splitE, if_pos (by omega)]) (by decide)) (fun hc => ?_)
  refine br_dec (fun hc => e0 _ (by rw [splitE, if_pos (by omega)]) (by decide)) (fun hc => ?_)
  refine br_dec (fun hc => e0 _ (by rw [splitE, if_neg (by omega), if_pos (by omega)]) (by decide)) (fun hc => ?_)
  have he : splitE cmd b.length = 0 := by rw [splitE, if_neg (by omega), if_neg (by omega)]
  have hm := imin_le b.length 57 (by omega)
  rw [splitL, if_neg (by rw [he]; decide), he] at h
  rw [take_imin, drop_imin]
  refine chk_of (cut_hi (by omega) (by omega)) (chk_dec (by simp; omega) ?_)
  refine chk_dec (by simp; omega) ?_
  exact h
theorem k24 : Keeps Proofs.Try.prog 24 S24 := by
  refine ⟨?_, Proofs.Try.f24, by kernel_rfl, by kernel_rfl, by kernel_rfl⟩
  intro args e post h
  unfold S24 at h
  split at h
  · refine Spec.inR fun hin hie => fun_ok' (c := c24) gam_ok (l := u24) a24 rfl mixed_ok (fn := Proofs.Try.f24) (show Proofs.Try.prog.funcs[24]? = some Proofs.Try.f24 by kernel_rfl) (by kernel_rfl) (ls := [(8, L24_8)]) rfl (.inr (by kernel_rfl)) ⟨l24_8, trivial⟩ (pm := pm24) (by simp [c24]) (by rintro ⟨t, l, h⟩; cases h) ?_
    exact p24_0 _ _ _ _ hin hie h
  · exact h.elim
def pm25 : Pm := ⟨[.r 0, .r 0], .no, [.s]⟩
def u25 : List (Nat × Tr) := [(33, S33)]
theorem a25 : AllKeep Proofs.Try.prog u25 := ⟨k33, trivial⟩

def kp25_4 : List (Loc × Keep) := [(.t 0, .shp (.r 0)), (.t 1, .shp (.r 0)), (.t 5, .shp .s)]
def tr25_4 : Trim := .some [] [] [4] []
def L25_4 : LTr
  | ⟨[(0, .rs false 0 ps), (1, .rs false 0 qs), (5, .int .i64 i)], []⟩, k => chk (decide (0 ≤ i ∧ i ≤ ps.length ∧ ps.length < 9223372036854775808)) (ps = qs ∧ k (.exit 0) ⟨[], []⟩)
  | _, _ => False
def c25_0 : Cfg := { n := 27, Γ := Gam, C := ofL u25, pm := pmL [(33, pm33)], plan := plan25, L := lpL [], unroll := nmL [], keep := kpL [(4, kp25_4)] }
def c25 : Cfg := { n := 27, Γ := Gam, C := ofL u25, pm := pmL [(33, pm33)], plan := plan25, L := lpL [(4, L25_4)], unroll := nmL [], keep := kpL [(4, kp25_4)] }
def S25 : Tr
  | [.rs false 0 ps, .rs false 0 qs], none, post => ps = qs ∧ post (.bool true) none
  | _, _, _ => False
theorem t25_0 (ps qs : List Rec) (post : AV → Option AV → Prop) : runF c25 pm25 Proofs.Try.f25 [.rs false 0 ps, .rs false 0 qs] none post = (br (@Nat.cast Int _ ps.length != @Nat.cast Int _ qs.length) (post (AV.bool false) none)
     (chk (decide ((0 : Int) ≤ (0 : Int) ∧ (0 : Int) ≤ @Nat.cast Int _ ps.length ∧ ps.length < (9223372036854775808 : Nat)))
     (ps = qs ∧ post (AV.bool true) none))) := by kernel_rfl
theorem q25_4 (i : Int) (ps qs : List Rec) (k : Out → AS → Prop) : stepL c25_0 kp25_4 tr25_4 (loopAt Proofs.Try.f25 4) ⟨[(0, .rs false 0 ps), (1, .rs false 0 qs), (5, .int .i64 i)], []⟩ k = (br (decide (i < @Nat.cast Int _ ps.length))
     (chk (inB i ps.length)
     (chk (inB i qs.length)
     (br
     (!decide
     ((ps.getD i.toNat default).1 = (qs.getD i.toNat default).1 ∧
     (ps.getD i.toNat default).5 = (qs.getD i.toNat default).5 ∧
     (ps.getD i.toNat default).2 = (qs.getD i.toNat default).2 ∧
     (ps.getD i.toNat default).3 = (qs.getD i.toNat default).3 ∧
     (ps.getD i.toNat default).4 = (qs.getD i.toNat default).4 ∧
     (ps.getD i.toNat default).6 = (qs.getD i.toNat default).6))
     (k Out.ret (AS.mk [((4 : Nat), AV.bool false)] []))
     (k Out.normal
     (AS.mk
     [((0 : Nat), AV.rs false (0 : Nat) ps), ((1 : Nat), AV.rs false (0 : Nat) qs),
     ((5 : Nat), AV.int IntKind.i64 (IntKind.i64.wrap (i + (1 : Int))))]
     [])))))
     (k (Out.exit (0 : Nat)) (AS.mk [] []))) := by kernel_rfl

theorem i25_4 (k : Out → AS → Prop) (fuel : Nat) : ∀ (i : Int) (ps qs : List Rec), (ps.length - i).toNat < fuel → (0 ≤ i ∧ i ≤ ps.length ∧ ps.length < 9223372036854775808) → (ps = qs ∧ k (.exit 0) ⟨[], []⟩) → iterL (stepL c25_0 kp25_4 tr25_4 (loopAt Proofs.Try.f25 4)) k fuel ⟨[(0, .rs false 0 ps), (1, .rs false 0 qs), (5, .int .i64 i)], []⟩ := by
  induction fuel with
  | zero => intro i ps qs hm; omega
  | succ fuel ih =>
    intro i ps qs hm hp hk
    simp only [iterL]
    rw [q25_4]
    dsimp only
    obtain ⟨rfl, hk⟩ := hk
    refine br_dec (fun hc => ?_) (fun hc => hk)
    rw [wrap_i64 (n := i + 1) (by omega) (by omega)]
    refine chk_inB (by omega) (by omega) (chk_inB (by omega) (by omega) (br_not (br_dec (fun _ => ?_) (fun hn => absurd ⟨rfl, rfl, rfl, rfl, rfl, rfl⟩ hn))))
    exact ih _ _ _ (by omega) (by omega) ⟨rfl, hk⟩
theorem l25_4 : ∀ s k, L25_4 s k → Tri Proofs.Try.prog 27 (.loop (loopAt Proofs.Try.f25 4)) s k := by
  intro s k h
  unfold L25_4 at h
  split at h
  · obtain ⟨h1, h2⟩ := chk_iff.1 h
    exact iter_ok (c := c25_0) gam_ok (l := u25) a25 rfl mixed_ok (by kernel_rfl) (ls := []) rfl (.inl rfl) trivial (kps := kp25_4) (tr := tr25_4) (_) (i25_4 k _ _ _ _ (Nat.lt_succ_self _) (of_decide_eq_true h1) h2)
  · exact h.elim
theorem p25_0 (ps qs : List Rec) (post : AV → Option AV → Prop) (hin : InRL [.rs false 0 ps, .rs false 0 qs]) (hie : InRO none) (h : ps = qs ∧ post (.bool true) none) : Ok (runF c25 pm25 Proofs.Try.f25 [.rs false 0 ps, .rs false 0 qs] none (post)) := by
  refine ⟨?_⟩
  rw [t25_0]
  obtain ⟨rfl, h⟩ := h
  have hl : ps.length ≤ maxLen := by simp only [InRL, InR] at hin; exact hin.1.2
  refine br_ne (fun hc => absurd rfl hc) (fun _ => chk_dec ?_ ?_)
  · unfold maxLen at hl; omega
  · exact ⟨rfl, h⟩
theorem k25 : Keeps Proofs.Try.prog 25 S25 := by
  refine ⟨?_, Proofs.Try.f25, by kernel_rfl, by kernel_rfl, by kernel_rfl⟩
  intro args e post h
  unfold S25 at h
  split at h
  · refine Spec.inR fun hin hie => fun_ok' (c := c25) gam_ok (l := u25) a25 rfl mixed_ok (fn := Proofs.Try.f25) (show Proofs.Try.prog.funcs[25]? = some Proofs.Try.f25 by kernel_rfl) (by kernel_rfl) (ls := [(4, L25_4)]) rfl (.inr (by kernel_rfl)) ⟨l25_4, trivial⟩ (pm := pm25) (by simp [c25]) (by rintro ⟨t, l, h⟩; cases h) ?_
    exact p25_0 _ _ _ hin hie h
  · exact h.elim
def pm28 : Pm := ⟨[.r 0], .no, [.s, .i .u8, .s, .s]⟩
def u28 : List (Nat × Tr) := [(19, S19), (54, S54)]
theorem a28 : AllKeep Proofs.Try.prog u28 := ⟨k19, k54, trivial⟩

def kp28_10 : List (Loc × Keep) := [(.t 0, .shp (.r 0)), (.t 3, .own 900 (.li 5 .u8)), (.t 6, .ptr), (.t 7, .shp .s), (.t 33, .shp .s), (.t 34, .shp .s)]
def tr28_10 : Trim := .some [3, 6, 7] [6, 900] [2, 3, 4, 5] []
def L28_10 : LTr
  | ⟨[(0, .rs false 0 ps), (3, .ownf 900), (6, .ptr 6 0 0), (7, .int .i64 n), (33, .int .i64 n'), (34, .int .i64 i)], [(6, .box 38 [.int .u32 a, .bool f, .int .i64 b, .int .i64 c, .int .i64 d, .ints false .u8 s]), (900, .lini 5 .u8 L)]⟩, k => chk (decide (0 ≤ i ∧ i ≤ n ∧ n ≤ 1000 ∧ 0 ≤ c ∧ c ≤ 4096 ∧ n = n' ∧ (L.length : Int) ≤ c ∧ i ≤ ps.length)) (br ((joinF a c ps (n - i).toNat i.toNat L).2 == 0) (k (.exit 1) ⟨[(3, .ownf 900), (6, .ptr 6 0 0), (7, .int .i64 n)], [(6, .box 38 [.int .u32 a, .bool f, .int .i64 b, .int .i64 c, .int .i64 d, .ints false .u8 s]), (900, .lini 5 .u8 (joinF a c ps (n - i).toNat i.toNat L).1)]⟩) (k .ret ⟨[(2, .int .i64 0), (3, .nil), (4, .int .i64 0), (5, .int .i64 (joinF a c ps (n - i).toNat i.toNat L).2)], []⟩))
  | _, _ => False
def c28_0 : Cfg := { n := 90, Γ := Gam, C := ofL u28, pm := pmL [(19, pm19), (54, pm54)], plan := plan28, L := lpL [], unroll := nmL [], keep := kpL [(10, kp28_10)] }
def c28 : Cfg := { n := 90, Γ := Gam, C := ofL u28, pm := pmL [(19, pm19), (54, pm54)], plan := plan28, L := lpL [(10, L28_10)], unroll := nmL [], keep := kpL [(10, kp28_10)] }
def S28 : Tr
  | [.rs false 0 ps], none, post => post (.tup [.int .i64 (joinC ps), .ints false .u8 (joinR ps).1, .int .i64 (joinU ps), .int .i64 (joinR ps).2]) none
  | _, _, _ => False
theorem t28_0 (ps : List Rec) (post : AV → Option AV → Prop) : runF c28 pm28 Proofs.Try.f28 [.rs false 0 ps] none post = (br (@Nat.cast Int _ ps.length == (0 : Int))
     (post
     (AV.tup
     [AV.int IntKind.i64 (0 : Int), AV.ints false IntKind.u8 [], AV.int IntKind.i64 (0 : Int),
     AV.int IntKind.i64 (1 : Int)])
     none)
     (chk (inB (0 : Int) ps.length)
     (br (!(ps.getD (0 : Nat) default).5)
     (post
     (AV.tup
     [AV.int IntKind.i64 (0 : Int), AV.ints false IntKind.u8 [], AV.int IntKind.i64 (0 : Int),
     AV.int IntKind.i64 (3 : Int)])
     none)
     (br (decide ((ps.getD (0 : Nat) default).3 < (0 : Int)))
     (post
     (AV.tup
     [AV.int IntKind.i64 (0 : Int), AV.ints false IntKind.u8 [], AV.int IntKind.i64 (0 : Int),
     AV.int IntKind.i64 (8 : Int)])
     none)
     (br (decide ((ps.getD (0 : Nat) default).3 > (4096 : Int)))
     (post
     (AV.tup
     [AV.int IntKind.i64 (0 : Int), AV.ints false IntKind.u8 [], AV.int IntKind.i64 (0 : Int),
     AV.int IntKind.i64 (8 : Int)])
     none)
     (chk
     (decide
     ((0 : Int) ≤ (0 : Int) ∧
     (0 : Int) ≤ countI (ps.getD (0 : Nat) default).3 ∧
     countI (ps.getD (0 : Nat) default).3 ≤ (1000 : Int) ∧
     (0 : Int) ≤ (ps.getD (0 : Nat) default).3 ∧
     (ps.getD (0 : Nat) default).3 ≤ (4096 : Int) ∧
     countI (ps.getD (0 : Nat) default).3 = countI (ps.getD (0 : Nat) default).3 ∧
     (0 : Int) ≤ (ps.getD (0 : Nat) default).3 ∧ (0 : Int) ≤ @Nat.cast Int _ ps.length))
     (br
     ((joinF (ps.getD (0 : Nat) default).1 (ps.getD (0 : Nat) default).3 ps
     (countI (ps.getD (0 : Nat) default).3 - (0 : Int)).toNat (0 : Nat) []).2 ==
     (0 : Int))
     (post
     (AV.tup
     [AV.int IntKind.i64 (ps.getD (0 : Nat) default).2,
     AV.ints false IntKind.u8
     (joinF (ps.getD (0 : Nat) default).1 (ps.getD (0 : Nat) default).3 ps
     (countI (ps.getD (0 : Nat) default).3 - (0 : Int)).toNat (0 : Nat) []).1,
     AV.int IntKind.i64 (countI (ps.getD (0 : Nat) default).3), AV.int IntKind.i64 (0 : Int)])
     none)
     (post
     (AV.tup
     [AV.int IntKind.i64 (0 : Int), AV.ints false IntKind.u8 [], AV.int IntKind.i64 (0 : Int),
     AV.int IntKind.i64
     (joinF (ps.getD (0 : Nat) default).1 (ps.getD (0 : Nat) default).3 ps
     (countI (ps.getD (0 : Nat) default).3 - (0 : Int)).toNat (0 : Nat) []).2])
     none)))))))) := by kernel_rfl
theorem q28_10 (a b c d n n' i : Int) (f : Bool) (s L : List Int) (ps : List Rec) (k : Out → AS → Prop) : stepL c28_0 kp28_10 tr28_10 (loopAt Proofs.Try.f28 10) ⟨[(0, .rs false 0 ps), (3, .ownf 900), (6, .ptr 6 0 0), (7, .int .i64 n), (33, .int .i64 n'), (34, .int .i64 i)], [(6, .box 38 [.int .u32 a, .bool f, .int .i64 b, .int .i64 c, .int .i64 d, .ints false .u8 s]), (900, .lini 5 .u8 L)]⟩ k = (br (decide (i < n'))
     (br (i == @Nat.cast Int _ ps.length)
     (k Out.ret
     (AS.mk
     [((2 : Nat), AV.int IntKind.i64 (0 : Int)), ((3 : Nat), AV.nil), ((4 : Nat), AV.int IntKind.i64 (0 : Int)),
     ((5 : Nat), AV.int IntKind.i64 (1 : Int))]
     []))
     (chk (inB i ps.length)
     (br (decide (i > (0 : Int)))
     (br (ps.getD i.toNat default).5
     (k Out.ret
     (AS.mk
     [((2 : Nat), AV.int IntKind.i64 (0 : Int)), ((3 : Nat), AV.nil),
     ((4 : Nat), AV.int IntKind.i64 (0 : Int)), ((5 : Nat), AV.int IntKind.i64 (33 : Int))]
     []))
     (br ((ps.getD i.toNat default).1 != a)
     (k Out.ret
     (AS.mk
     [((2 : Nat), AV.int IntKind.i64 (0 : Int)), ((3 : Nat), AV.nil),
     ((4 : Nat), AV.int IntKind.i64 (0 : Int)), ((5 : Nat), AV.int IntKind.i64 (33 : Int))]
     []))
     (br ((ps.getD i.toNat default).4 != IntKind.i64.wrap (i - (1 : Int)))
     (k Out.ret
     (AS.mk
     [((2 : Nat), AV.int IntKind.i64 (0 : Int)), ((3 : Nat), AV.nil),
     ((4 : Nat), AV.int IntKind.i64 (0 : Int)), ((5 : Nat), AV.int IntKind.i64 (33 : Int))]
     []))
     (br
     (decide
     (@Nat.cast Int _ (ps.getD i.toNat default).6.length <
     imin (IntKind.i64.wrap (c - @Nat.cast Int _ L.length)) (capI (i == (0 : Int)))))
     (k Out.ret
     (AS.mk
     [((2 : Nat), AV.int IntKind.i64 (0 : Int)), ((3 : Nat), AV.nil),
     ((4 : Nat), AV.int IntKind.i64 (0 : Int)), ((5 : Nat), AV.int IntKind.i64 (2 : Int))]
     []))
     (chk
     (cutB (ps.getD i.toNat default).6.length none
     (some (imin (IntKind.i64.wrap (c - @Nat.cast Int _ L.length)) (capI (i == (0 : Int))))))
     (chk
     (decide
     (L.length +
     (List.take (imin (IntKind.i64.wrap (c - @Nat.cast Int _ L.length)) (capI (i == (0 : Int)))).toNat
     (ps.getD i.toNat default).6).length ≤
     (1099511627776 : Nat)))
     (k Out.normal
     (AS.mk
     [((0 : Nat), AV.rs false (0 : Nat) ps), ((3 : Nat), AV.ownf (900 : Nat)),
     ((6 : Nat), AV.ptr (6 : Nat) (0 : Nat) (0 : Nat)), ((7 : Nat), AV.int IntKind.i64 n),
     ((33 : Nat), AV.int IntKind.i64 n'),
     ((34 : Nat), AV.int IntKind.i64 (IntKind.i64.wrap (i + (1 : Int))))]
     [((6 : Nat),
     AV.box (38 : Nat)
     [AV.int IntKind.u32 a, AV.bool f, AV.int IntKind.i64 b, AV.int IntKind.i64 c,
     AV.int IntKind.i64 d, AV.ints false IntKind.u8 s]),
     ((900 : Nat),
     AV.lini (5 : Nat) IntKind.u8
     (L ++
     List.take
     (imin (IntKind.i64.wrap (c - @Nat.cast Int _ L.length)) (capI (i == (0 : Int)))).toNat
     (ps.getD i.toNat default).6))]))))))))
     (br
     (decide
     (@Nat.cast Int _ (ps.getD i.toNat default).6.length <
     imin (IntKind.i64.wrap (c - @Nat.cast Int _ L.length)) (capI (i == (0 : Int)))))
     (k Out.ret
     (AS.mk
     [((2 : Nat), AV.int IntKind.i64 (0 : Int)), ((3 : Nat), AV.nil),
     ((4 : Nat), AV.int IntKind.i64 (0 : Int)), ((5 : Nat), AV.int IntKind.i64 (2 : Int))]
     []))
     (chk
     (cutB (ps.getD i.toNat default).6.length none
     (some (imin (IntKind.i64.wrap (c - @Nat.cast Int _ L.length)) (capI (i == (0 : Int))))))
     (chk
     (decide
     (L.length +
     (List.take (imin (IntKind.i64.wrap (c - @Nat.cast Int _ L.length)) (capI (i == (0 : Int)))).toNat
     (ps.getD i.toNat default).6).length ≤
     (1099511627776 : Nat)))
     (k Out.normal
     (AS.mk
     [((0 : Nat), AV.rs false (0 : Nat) ps), ((3 : Nat), AV.ownf (900 : Nat)),
     ((6 : Nat), AV.ptr (6 : Nat) (0 : Nat) (0 : Nat)), ((7 : Nat), AV.int IntKind.i64 n),
     ((33 : Nat), AV.int IntKind.i64 n'),
     ((34 : Nat), AV.int IntKind.i64 (IntKind.i64.wrap (i + (1 : Int))))]
     [((6 : Nat),
     AV.box (38 : Nat)
     [AV.int IntKind.u32 a, AV.bool f, AV.int IntKind.i64 b, AV.int IntKind.i64 c,
     AV.int IntKind.i64 d, AV.ints false IntKind.u8 s]),
     ((900 : Nat),
     AV.lini (5 : Nat) IntKind.u8
     (L ++
     List.take (imin (IntKind.i64.wrap (c - @Nat.cast Int _ L.length)) (capI (i == (0 : Int)))).toNat
     (ps.getD i.toNat default).6))]))))))))
     (k (Out.exit (1 : Nat))
     (AS.mk
     [((3 : Nat), AV.ownf (900 : Nat)), ((6 : Nat), AV.ptr (6 : Nat) (0 : Nat) (0 : Nat)),
     ((7 : Nat), AV.int IntKind.i64 n)]
     [((6 : Nat),
     AV.box (38 : Nat)
     [AV.int IntKind.u32 a, AV.bool f, AV.int IntKind.i64 b, AV.int IntKind.i64 c, AV.int IntKind.i64 d,
     AV.ints false IntKind.u8 s]),
     ((900 : Nat), AV.lini (5 : Nat) IntKind.u8 L)]))) := by kernel_rfl

theorem i28_10 (k : Out → AS → Prop) (fuel : Nat) : ∀ (a b c d n n' i : Int) (f : Bool) (s L : List Int) (ps : List Rec), (n - i).toNat < fuel → (0 ≤ i ∧ i ≤ n ∧ n ≤ 1000 ∧ 0 ≤ c ∧ c ≤ 4096 ∧ n = n' ∧ (L.length : Int) ≤ c ∧ i ≤ ps.length) → (br ((joinF a c ps (n - i).toNat i.toNat L).2 == 0) (k (.exit 1) ⟨[(3, .ownf 900), (6, .ptr 6 0 0), (7, .int .i64 n)], [(6, .box 38 [.int .u32 a, .bool f, .int .i64 b, .int .i64 c, .int .i64 d, .ints false .u8 s]), (900, .lini 5 .u8 (joinF a c ps (n - i).toNat i.toNat L).1)]⟩) (k .ret ⟨[(2, .int .i64 0), (3, .nil), (4, .int .i64 0), (5, .int .i64 (joinF a c ps (n - i).toNat i.toNat L).2)], []⟩)) → iterL (stepL c28_0 kp28_10 tr28_10 (loopAt Proofs.Try.f28 10)) k fuel ⟨[(0, .rs false 0 ps), (3, .ownf 900), (6, .ptr 6 0 0), (7, .int .i64 n), (33, .int .i64 n'), (34, .int .i64 i)], [(6, .box 38 [.int .u32 a, .bool f, .int .i64 b, .int .i64 c, .int .i64 d, .ints false .u8 s]), (900, .lini 5 .u8 L)]⟩ := by
  induction fuel with
  | zero => intro a b c d n n' i f s L ps hm; omega
  | succ fuel ih =>
    intro a b c d n n' i f s L ps hm hp hk
    simp only [iterL]
    rw [q28_10]
    dsimp only
    obtain ⟨p1, p2, p3, p4, p5, p6, p7, p8⟩ := hp
    subst p6
    refine br_dec (fun hc => ?_) (fun hc => ?_)
    · obtain ⟨m, hm'⟩ : ∃ m, (n - i).toNat = m + 1 := ⟨(n - i).toNat - 1, by omega⟩
      rw [hm'] at hk
      simp only [joinF] at hk
      have hcap : imin (c - L.length) (capI (i == 0)) = sizeJ c i.toNat L := by rw [capI_at i p1, sizeJ]
      have hs : 0 ≤ sizeJ c i.toNat L ∧ sizeJ c i.toNat L ≤ c - L.length := by
        rw [← hcap]
        have := imin_rng (c - L.length) (capI (i == 0)) (by omega) (by rw [capI_at i p1]; split <;> omega)
        omega
      refine br_eq (fun he => ?_) (fun he => ?_)
      · rw [if_pos (by omega)] at hk
        exact br_neg hk (by decide)
      rw [if_neg (by omega)] at hk
      rw [wrap_i64 (n := i + 1) (by omega) (by omega), wrap_i64 (n := i - 1) (by omega) (by omega), wrap_i64 (n := c - _) (by omega) (by omega)]
      refine chk_inB (by omega) (by omega) ?_
      by_cases hbad : badJ a (ps.getD i.toNat default) i.toNat = true
      · rw [if_pos hbad] at hk
        replace hk := br_neg hk (by decide)
        refine br_dec (fun h0 => ?_) (fun h0 => ?_)
        · refine br_of (fun _ => hk) (fun h1 => br_ne (fun _ => hk) (fun h2 => br_ne (fun _ => hk) (fun h3 => ?_)))
          exfalso
          unfold badJ at hbad
          rw [h1, h2, show (ps.getD i.toNat default).d = (i.toNat : Int) - 1 by omega] at hbad
          simp at hbad
        · exfalso
          simp only [badJ, Bool.and_eq_true, decide_eq_true_eq] at hbad
          omega
      rw [if_neg hbad] at hk
      simp only [badJ, Bool.and_eq_true, Bool.or_eq_true, decide_eq_true_eq] at hbad
      refine br_dec (fun h0 => ?_) (fun h0 => ?_)
      · refine br_of (fun h1 => absurd ⟨by omega, .inl h1⟩ hbad) (fun h1 => br_ne (fun h2 => absurd ⟨by omega, .inr (.inl h2)⟩ hbad) (fun h2 => br_ne (fun h3 => absurd ⟨by omega, .inr (.inr (by omega))⟩ hbad) (fun h3 => ?_)))
        rw [hcap]
        refine br_dec (fun h5 => ?_) (fun h5 => ?_)
        · rw [if_pos h5] at hk
          exact br_neg hk (by decide)
        · rw [if_neg h5] at hk
          refine chk_of (cut_hi (by omega) (by omega)) (chk_dec (by simp; omega) ?_)
          refine ih _ _ _ _ _ _ _ _ _ _ _ (by omega) ⟨by omega, by omega, by omega, by omega, by omega, rfl, by simp only [List.length_append, List.length_take]; omega, by omega⟩ ?_
          rw [show (n - (i + 1)).toNat = m by omega, show (i + 1).toNat = i.toNat + 1 by omega]
          exact hk
      · rw [hcap]
        refine br_dec (fun h5 => ?_) (fun h5 => ?_)
        · rw [if_pos h5] at hk
          exact br_neg hk (by decide)
        · rw [if_neg h5] at hk
          refine chk_of (cut_hi (by omega) (by omega)) (chk_dec (by simp; omega) ?_)
          refine ih _ _ _ _ _ _ _ _ _ _ _ (by omega) ⟨by omega, by omega, by omega, by omega, by omega, rfl, by simp only [List.length_append, List.length_take]; omega, by omega⟩ ?_
          rw [show (n - (i + 1)).toNat = m by omega, show (i + 1).toNat = i.toNat + 1 by omega]
          exact hk
    · obtain rfl : i = n := by omega
      rw [Int.sub_self] at hk
      exact hk
theorem l28_10 : ∀ s k, L28_10 s k → Tri Proofs.Try.prog 90 (.loop (loopAt Proofs.Try.f28 10)) s k := by
  intro s k h
  unfold L28_10 at h
  split at h
  · obtain ⟨h1, h2⟩ := chk_iff.1 h
    exact iter_ok (c := c28_0) gam_ok (l := u28) a28 rfl mixed_ok (by kernel_rfl) (ls := []) rfl (.inl rfl) trivial (kps := kp28_10) (tr := tr28_10) (_) (i28_10 k _ _ _ _ _ _ _ _ _ _ _ _ (Nat.lt_succ_self _) (of_decide_eq_true h1) h2)
  · exact h.elim
theorem p28_0 (ps : List Rec) (post : AV → Option AV → Prop) (hin : InRL [.rs false 0 ps]) (hie : InRO none) (h : post (.tup [.int .i64 (joinC ps), .ints false .u8 (joinR ps).1, .int .i64 (joinU ps), .int .i64 (joinR ps).2]) none) : Ok (runF c28 pm28 Proofs.Try.f28 [.rs false 0 ps] none (post)) := by
  refine ⟨?_⟩
  rw [t28_0]
  have eR : ∀ x : Int, x ≠ 0 → joinR ps = ([], x) → post (.tup [.int .i64 0, .ints false .u8 [], .int .i64 0, .int .i64 x]) none := fun x hx e => by
    refine post_of h ?_ rfl
    simp only [joinC, joinU, e, if_neg hx]
  refine br_eq (fun hc => eR _ (by decide) (by rw [joinR, if_pos (by omega)])) (fun hc => ?_)
  refine chk_inB (by omega) (by omega) (br_not (br_of (fun hf => ?_) (fun hf => eR _ (by decide) (by unfold joinR; rw [if_neg (by omega), if_pos (show (hdR ps).f = false from hf)]))))
  refine br_dec (fun h1 => eR _ (by decide) (by rw [joinR, if_neg (by omega), if_neg (show ¬ (hdR ps).f = false by rw [show (hdR ps).f = true from hf]; decide), if_pos (show (hdR ps).c < 0 ∨ 4096 < (hdR ps).c from .inl h1)])) (fun h1 => ?_)
  refine br_dec (fun h2 => eR _ (by decide) (by rw [joinR, if_neg (by omega), if_neg (show ¬ (hdR ps).f = false by rw [show (hdR ps).f = true from hf]; decide), if_pos (show (hdR ps).c < 0 ∨ 4096 < (hdR ps).c from .inr h2)])) (fun h2 => ?_)
  have hd := count_div (c := (ps.getD 0 default).c) (by omega) (by omega)
  have e : joinR ps = joinF (hdR ps).a (hdR ps).c ps (countI (hdR ps).c).toNat 0 [] := by rw [joinR, if_neg (by omega), if_neg (show ¬ (hdR ps).f = false by rw [show (hdR ps).f = true from hf]; decide), if_neg (by simp only [hdR]; omega)]
  refine chk_dec ⟨by omega, by omega, by omega, by omega, by omega, rfl, by show ((0 : Nat) : Int) ≤ _; omega, by omega⟩ (br_eq (fun h3 => ?_) (fun h3 => ?_))
  · refine post_of h ?_ rfl
    have h4 : (joinR ps).2 = 0 := by rw [e, hdR]; simpa using h3
    simp only [joinC, joinU, h4, if_pos]
    rw [e]
    simp only [hdR, Int.sub_zero, Int.toNat_zero]
  · refine post_of h ?_ rfl
    have h4 : (joinR ps).2 ≠ 0 := by rw [e, hdR]; simpa using h3
    simp only [joinC, joinU, if_neg h4]
    rw [joinR_err ps h4, e]
    simp only [hdR, Int.sub_zero, Int.toNat_zero]
theorem k28 : Keeps Proofs.Try.prog 28 S28 := by
  refine ⟨?_, Proofs.Try.f28, by kernel_rfl, by kernel_rfl, by kernel_rfl⟩
  intro args e post h
  unfold S28 at h
  split at h
  · refine Spec.inR fun hin hie => fun_ok' (c := c28) gam_ok (l := u28) a28 rfl mixed_ok (fn := Proofs.Try.f28) (show Proofs.Try.prog.funcs[28]? = some Proofs.Try.f28 by kernel_rfl) (by kernel_rfl) (ls := [(10, L28_10)]) rfl (.inr (by kernel_rfl)) ⟨l28_10, trivial⟩ (pm := pm28) (by simp [c28]) (by rintro ⟨t, l, h⟩; cases h) ?_
    exact p28_0 _ _ hin hie h
  · exact h.elim
def pm29 : Pm := ⟨[.r 0], .no, [.s, .i .u8, .s, .s]⟩
def u29 : List (Nat × Tr) := []
theorem a29 : AllKeep Proofs.Try.prog u29 := trivial

def kp29_4 : List (Loc × Keep) := [(.t 0, .shp (.r 0)), (.t 6, .own 900 (.li 5 .u8)), (.t 7, .shp .s)]
def tr29_4 : Trim := .some [] [] [2, 3, 4, 5] [71]
def L29_4 : LTr
  | ⟨[(0, .rs false 0 ps), (6, .ownf 900), (7, .int .i64 i)], [(900, .lini 5 .u8 L)]⟩, k => chk (decide (0 ≤ i ∧ ps.length < 9223372036854775808 ∧ (i = 0 ∧ L.length = 0 ∨ 0 < i ∧ 0 ≤ (hdR ps).c ∧ (hdR ps).c ≤ 4096 ∧ (hdR ps).f = true ∧ L.length = 57 + 59 * (i - 1) ∧ (L.length : Int) < (hdR ps).c))) (br ((joinG ps i.toNat L).2 == 0) (k .ret ⟨[(2, .int .i64 (hdR ps).b), (3, .ownf 71), (4, .int .i64 (countI (hdR ps).c)), (5, .int .i64 0)], [(71, .lini 5 .u8 (joinG ps i.toNat L).1)]⟩) (k .ret ⟨[(2, .int .i64 0), (3, .nil), (4, .int .i64 0), (5, .int .i64 (joinG ps i.toNat L).2)], []⟩))
  | _, _ => False
def c29_0 : Cfg := { n := 86, Γ := Gam, C := ofL u29, pm := pmL [], plan := plan29, L := lpL [], unroll := nmL [], keep := kpL [(4, kp29_4)] }
def c29 : Cfg := { n := 86, Γ := Gam, C := ofL u29, pm := pmL [], plan := plan29, L := lpL [(4, L29_4)], unroll := nmL [], keep := kpL [(4, kp29_4)] }
def S29 : Tr
  | [.rs false 0 ps], none, post => post (.tup [.int .i64 (joinC ps), .ints false .u8 (joinR ps).1, .int .i64 (joinU ps), .int .i64 (joinR ps).2]) none
  | _, _, _ => False
theorem t29_0 (ps : List Rec) (post : AV → Option AV → Prop) : runF c29 pm29 Proofs.Try.f29 [.rs false 0 ps] none post = (chk
     (decide
     ((0 : Int) ≤ (0 : Int) ∧
     ps.length < (9223372036854775808 : Nat) ∧
     ((0 : Int) = (0 : Int) ∧ (0 : Nat) = (0 : Nat) ∨
     (0 : Int) < (0 : Int) ∧
     (0 : Int) ≤ (hdR ps).3 ∧
     (hdR ps).3 ≤ (4096 : Int) ∧ (hdR ps).5 = true ∧ (0 : Int) = (-2 : Int) ∧ (0 : Int) < (hdR ps).3)))
     (br ((joinG ps (0 : Nat) []).2 == (0 : Int))
     (post
     (AV.tup
     [AV.int IntKind.i64 (hdR ps).2, AV.ints false IntKind.u8 (joinG ps (0 : Nat) []).1,
     AV.int IntKind.i64 (countI (hdR ps).3), AV.int IntKind.i64 (0 : Int)])
     none)
     (post
     (AV.tup
     [AV.int IntKind.i64 (0 : Int), AV.ints false IntKind.u8 [], AV.int IntKind.i64 (0 : Int),
     AV.int IntKind.i64 (joinG ps (0 : Nat) []).2])
     none))) := by kernel_rfl
theorem q29_4 (i : Int) (L : List Int) (ps : List Rec) (k : Out → AS → Prop) : stepL c29_0 kp29_4 tr29_4 (loopAt Proofs.Try.f29 4) ⟨[(0, .rs false 0 ps), (6, .ownf 900), (7, .int .i64 i)], [(900, .lini 5 .u8 L)]⟩ k = (br (decide (i ≥ @Nat.cast Int _ ps.length))
     (k Out.ret
     (AS.mk
     [((2 : Nat), AV.int IntKind.i64 (0 : Int)), ((3 : Nat), AV.nil), ((4 : Nat), AV.int IntKind.i64 (0 : Int)),
     ((5 : Nat), AV.int IntKind.i64 (1 : Int))]
     []))
     (chk (inB i ps.length)
     (br (i == (0 : Int))
     (br (!(ps.getD i.toNat default).5)
     (k Out.ret
     (AS.mk
     [((2 : Nat), AV.int IntKind.i64 (0 : Int)), ((3 : Nat), AV.nil), ((4 : Nat), AV.int IntKind.i64 (0 : Int)),
     ((5 : Nat), AV.int IntKind.i64 (3 : Int))]
     []))
     (br (decide ((ps.getD i.toNat default).3 < (0 : Int)))
     (k Out.ret
     (AS.mk
     [((2 : Nat), AV.int IntKind.i64 (0 : Int)), ((3 : Nat), AV.nil),
     ((4 : Nat), AV.int IntKind.i64 (0 : Int)), ((5 : Nat), AV.int IntKind.i64 (8 : Int))]
     []))
     (br (decide ((ps.getD i.toNat default).3 > (4096 : Int)))
     (k Out.ret
     (AS.mk
     [((2 : Nat), AV.int IntKind.i64 (0 : Int)), ((3 : Nat), AV.nil),
     ((4 : Nat), AV.int IntKind.i64 (0 : Int)), ((5 : Nat), AV.int IntKind.i64 (8 : Int))]
     []))
     (chk (inB (0 : Int) ps.length)
     (br
     (decide
     (@Nat.cast Int _ (ps.getD i.toNat default).6.length <
     imin (IntKind.i64.wrap ((ps.getD (0 : Nat) default).3 - @Nat.cast Int _ L.length)) (57 : Int)))
     (k Out.ret
     (AS.mk
     [((2 : Nat), AV.int IntKind.i64 (0 : Int)), ((3 : Nat), AV.nil),
     ((4 : Nat), AV.int IntKind.i64 (0 : Int)), ((5 : Nat), AV.int IntKind.i64 (2 : Int))]
     []))
     (chk
     (cutB (ps.getD i.toNat default).6.length none
     (some (imin (IntKind.i64.wrap ((ps.getD (0 : Nat) default).3 - @Nat.cast Int _ L.length)) (57 : Int))))
     (chk
     (decide
     (L.length +
     (List.take
     (imin (IntKind.i64.wrap ((ps.getD (0 : Nat) default).3 - @Nat.cast Int _ L.length))
     (57 : Int)).toNat
     (ps.getD i.toNat default).6).length ≤
     (1099511627776 : Nat)))
     (chk (inB (0 : Int) ps.length)
     (br
     (@Nat.cast Int _
     (L ++
     List.take
     (imin (IntKind.i64.wrap ((ps.getD (0 : Nat) default).3 - @Nat.cast Int _ L.length))
     (57 : Int)).toNat
     (ps.getD i.toNat default).6).length ==
     (ps.getD (0 : Nat) default).3)
     (chk (inB (0 : Int) ps.length)
     (k Out.ret
     (AS.mk
     [((2 : Nat), AV.int IntKind.i64 (ps.getD (0 : Nat) default).2),
     ((3 : Nat), AV.ownf (71 : Nat)),
     ((4 : Nat), AV.int IntKind.i64 (IntKind.i64.wrap (i + (1 : Int)))),
     ((5 : Nat), AV.int IntKind.i64 (0 : Int))]
     [((71 : Nat),
     AV.lini (5 : Nat) IntKind.u8
     (L ++
     List.take
     (imin (IntKind.i64.wrap ((ps.getD (0 : Nat) default).3 - @Nat.cast Int _ L.length))
     (57 : Int)).toNat
     (ps.getD i.toNat default).6))])))
     (k Out.normal
     (AS.mk
     [((0 : Nat), AV.rs false (0 : Nat) ps), ((6 : Nat), AV.ownf (900 : Nat)),
     ((7 : Nat), AV.int IntKind.i64 (IntKind.i64.wrap (i + (1 : Int))))]
     [((900 : Nat),
     AV.lini (5 : Nat) IntKind.u8
     (L ++
     List.take
     (imin (IntKind.i64.wrap ((ps.getD (0 : Nat) default).3 - @Nat.cast Int _ L.length))
     (57 : Int)).toNat
     (ps.getD i.toNat default).6))])))))))))))
     (br (ps.getD i.toNat default).5
     (k Out.ret
     (AS.mk
     [((2 : Nat), AV.int IntKind.i64 (0 : Int)), ((3 : Nat), AV.nil), ((4 : Nat), AV.int IntKind.i64 (0 : Int)),
     ((5 : Nat), AV.int IntKind.i64 (33 : Int))]
     []))
     (chk (inB (0 : Int) ps.length)
     (br ((ps.getD i.toNat default).1 != (ps.getD (0 : Nat) default).1)
     (k Out.ret
     (AS.mk
     [((2 : Nat), AV.int IntKind.i64 (0 : Int)), ((3 : Nat), AV.nil),
     ((4 : Nat), AV.int IntKind.i64 (0 : Int)), ((5 : Nat), AV.int IntKind.i64 (33 : Int))]
     []))
     (br ((ps.getD i.toNat default).4 != IntKind.i64.wrap (i - (1 : Int)))
     (k Out.ret
     (AS.mk
     [((2 : Nat), AV.int IntKind.i64 (0 : Int)), ((3 : Nat), AV.nil),
     ((4 : Nat), AV.int IntKind.i64 (0 : Int)), ((5 : Nat), AV.int IntKind.i64 (33 : Int))]
     []))
     (chk (inB (0 : Int) ps.length)
     (br
     (decide
     (@Nat.cast Int _ (ps.getD i.toNat default).6.length <
     imin (IntKind.i64.wrap ((ps.getD (0 : Nat) default).3 - @Nat.cast Int _ L.length)) (59 : Int)))
     (k Out.ret
     (AS.mk
     [((2 : Nat), AV.int IntKind.i64 (0 : Int)), ((3 : Nat), AV.nil),
     ((4 : Nat), AV.int IntKind.i64 (0 : Int)), ((5 : Nat), AV.int IntKind.i64 (2 : Int))]
     []))
     (chk
     (cutB (ps.getD i.toNat default).6.length none
     (some (imin (IntKind.i64.wrap ((ps.getD (0 : Nat) default).3 - @Nat.cast Int _ L.length)) (59 : Int))))
     (chk
     (decide
     (L.length +
     (List.take
     (imin (IntKind.i64.wrap ((ps.getD (0 : Nat) default).3 - @Nat.cast Int _ L.length))
     (59 : Int)).toNat
     (ps.getD i.toNat default).6).length ≤
     (1099511627776 : Nat)))
     (chk (inB (0 : Int) ps.length)
     (br
     (@Nat.cast Int _
     (L ++
     List.take
     (imin (IntKind.i64.wrap ((ps.getD (0 : Nat) default).3 - @Nat.cast Int _ L.length))
     (59 : Int)).toNat
     (ps.getD i.toNat default).6).length ==
     (ps.getD (0 : Nat) default).3)
     (chk (inB (0 : Int) ps.length)
     (k Out.ret
     (AS.mk
     [((2 : Nat), AV.int IntKind.i64 (ps.getD (0 : Nat) default).2),
     ((3 : Nat), AV.ownf (71 : Nat)),
     ((4 : Nat), AV.int IntKind.i64 (IntKind.i64.wrap (i + (1 : Int)))),
     ((5 : Nat), AV.int IntKind.i64 (0 : Int))]
     [((71 : Nat),
     AV.lini (5 : Nat) IntKind.u8
     (L ++
     List.take
     (imin (IntKind.i64.wrap ((ps.getD (0 : Nat) default).3 - @Nat.cast Int _ L.length))
     (59 : Int)).toNat
     (ps.getD i.toNat default).6))])))
     (k Out.normal
     (AS.mk
     [((0 : Nat), AV.rs false (0 : Nat) ps), ((6 : Nat), AV.ownf (900 : Nat)),
     ((7 : Nat), AV.int IntKind.i64 (IntKind.i64.wrap (i + (1 : Int))))]
     [((900 : Nat),
     AV.lini (5 : Nat) IntKind.u8
     (L ++
     List.take
     (imin (IntKind.i64.wrap ((ps.getD (0 : Nat) default).3 - @Nat.cast Int _ L.length))
     (59 : Int)).toNat
     (ps.getD i.toNat default).6))]))))))))))))))) := by kernel_rfl

theorem i29_4 (k : Out → AS → Prop) (fuel : Nat) : ∀ (i : Int) (L : List Int) (ps : List Rec), (100 - i).toNat < fuel → (0 ≤ i ∧ ps.length < 9223372036854775808 ∧ (i = 0 ∧ L.length = 0 ∨ 0 < i ∧ 0 ≤ (hdR ps).c ∧ (hdR ps).c ≤ 4096 ∧ (hdR ps).f = true ∧ L.length = 57 + 59 * (i - 1) ∧ (L.length : Int) < (hdR ps).c)) → (br ((joinG ps i.toNat L).2 == 0) (k .ret ⟨[(2, .int .i64 (hdR ps).b), (3, .ownf 71), (4, .int .i64 (countI (hdR ps).c)), (5, .int .i64 0)], [(71, .lini 5 .u8 (joinG ps i.toNat L).1)]⟩) (k .ret ⟨[(2, .int .i64 0), (3, .nil), (4, .int .i64 0), (5, .int .i64 (joinG ps i.toNat L).2)], []⟩)) → iterL (stepL c29_0 kp29_4 tr29_4 (loopAt Proofs.Try.f29 4)) k fuel ⟨[(0, .rs false 0 ps), (6, .ownf 900), (7, .int .i64 i)], [(900, .lini 5 .u8 L)]⟩ := by
  induction fuel with
  | zero => intro i L ps hm; omega
  | succ fuel ih =>
    intro i L ps hm hp hk
    simp only [iterL]
    rw [q29_4]
    dsimp only
    obtain ⟨p1, p2, p3⟩ := hp
    refine br_dec (fun hc => ?_) (fun hc => ?_)
    · have : joinG ps i.toNat L = ([], 1) := by
        unfold joinG
        split
        · unfold joinR; rw [if_pos (by omega)]
        · have hd := count_div (c := (hdR ps).c) (by omega) (by omega)
          obtain ⟨m, hm'⟩ : ∃ m, (countI (hdR ps).c).toNat - i.toNat = m + 1 := ⟨(countI (hdR ps).c).toNat - i.toNat - 1, by omega⟩
          rw [hm', joinF, if_pos (by omega)]
      rw [this] at hk
      exact br_neg hk (by decide)
    refine chk_inB (by omega) (by omega) ?_
    refine br_eq (fun h0 => ?_) (fun h0 => ?_)
    · have hL : L = [] := List.eq_nil_of_length_eq_zero (by omega)
      have hi0 : i.toNat = 0 := by omega
      have hg : ps.getD i.toNat default = hdR ps := by rw [hi0]; rfl
      have hcc : (ps.getD 0 default).c = (hdR ps).c := rfl
      rw [joinG, if_pos hi0] at hk
      refine br_not (br_of (fun hf => ?_) (fun hf => ?_))
      rotate_left
      · rw [show joinR ps = ([], 3) by unfold joinR; rw [if_neg (by omega), if_pos (by rw [← hg]; exact hf)]] at hk
        exact br_neg hk (by decide)
      replace hf : (hdR ps).f = true := by rw [← hg]; exact hf
      have hf' : ¬ (hdR ps).f = false := by rw [hf]; decide
      refine br_dec (fun h1 => ?_) (fun h1 => ?_)
      · rw [show joinR ps = ([], 8) by unfold joinR; rw [if_neg (by omega), if_neg hf', if_pos (.inl (by rw [← hg]; exact h1))]] at hk
        exact br_neg hk (by decide)
      refine br_dec (fun h2 => ?_) (fun h2 => ?_)
      · rw [show joinR ps = ([], 8) by unfold joinR; rw [if_neg (by omega), if_neg hf', if_pos (.inr (by rw [← hg]; exact h2))]] at hk
        exact br_neg hk (by decide)
      have h1' : ¬ (hdR ps).c < 0 := by rw [← hg]; exact h1
      have h2' : ¬ (hdR ps).c > 4096 := by rw [← hg]; exact h2
      have hd := count_div (c := (hdR ps).c) (by omega) (by omega)
      obtain ⟨m, hm'⟩ : ∃ m, (countI (hdR ps).c).toNat = m + 1 := ⟨(countI (hdR ps).c).toNat - 1, by omega⟩
      have e : joinR ps = joinF (hdR ps).a (hdR ps).c ps (m + 1) i.toNat L := by unfold joinR; rw [if_neg (by omega), if_neg hf', if_neg (by omega), hm', hi0, hL]
      rw [e, joinF, if_neg (by omega), if_neg (show ¬ badJ _ _ _ = true by simp [badJ, hi0])] at hk
      rw [wrap_i64 (n := (ps.getD 0 default).c - _) (by omega) (by omega)]
      refine chk_inB (by omega) (by omega) ?_
      have hsz : imin ((ps.getD 0 default).c - L.length) 57 = sizeJ (hdR ps).c i.toNat L := by rw [sizeJ, if_pos (by omega)]; rfl
      have hs := imin_rng ((ps.getD 0 default).c - L.length) 57 (by omega) (by omega)
      have hs2 : sizeJ (hdR ps).c i.toNat L = (ps.getD 0 default).c - L.length ∨ sizeJ (hdR ps).c i.toNat L = 57 := by rw [← hsz]; unfold imin; split <;> omega
      rw [hsz] at hs ⊢
      refine br_dec (fun h5 => ?_) (fun h5 => ?_)
      · rw [if_pos h5] at hk
        exact br_neg hk (by decide)
      rw [if_neg h5] at hk
      refine chk_of (cut_hi (by omega) (by omega)) (chk_dec (by simp; omega) (chk_inB (by omega) (by omega) ?_))
      have hl2 : ((L ++ (ps.getD i.toNat default).s.take (sizeJ (hdR ps).c i.toNat L).toNat).length : Int) = L.length + sizeJ (hdR ps).c i.toNat L := by simp only [List.length_append, List.length_take]; omega
      rw [wrap_i64 (n := i + 1) (by omega) (by omega)]
      refine br_eq (fun h6 => chk_inB (by omega) (by omega) ?_) (fun h6 => ?_)
      · obtain rfl : m = 0 := by omega
        simp only [joinF] at hk
        rw [show i + 1 = countI (hdR ps).c by omega]
        exact br_pos hk rfl
      · refine ih _ _ _ (by omega) ⟨by omega, by omega, .inr ⟨by omega, by omega, by omega, hf, by omega, by omega⟩⟩ ?_
        rw [joinG, if_neg (by omega), show (countI (hdR ps).c).toNat - (i + 1).toNat = m by omega, show (i + 1).toNat = i.toNat + 1 by omega]
        exact hk
    · obtain ⟨_, q1, q2, hf, q3, q4⟩ : 0 < i ∧ 0 ≤ (hdR ps).c ∧ (hdR ps).c ≤ 4096 ∧ (hdR ps).f = true ∧ L.length = 57 + 59 * (i - 1) ∧ (L.length : Int) < (hdR ps).c := by
        rcases p3 with p3 | p3
        · exact absurd p3.1 h0
        · exact p3
      have hcc : (ps.getD 0 default).c = (hdR ps).c := rfl
      have hd := count_div (c := (hdR ps).c) (by omega) (by omega)
      obtain ⟨m, hm'⟩ : ∃ m, (countI (hdR ps).c).toNat - i.toNat = m + 1 := ⟨(countI (hdR ps).c).toNat - i.toNat - 1, by omega⟩
      rw [joinG, if_neg (by omega), hm', joinF, if_neg (by omega)] at hk
      rw [wrap_i64 (n := i - 1) (by omega) (by omega)]
      by_cases hbad : badJ (hdR ps).a (ps.getD i.toNat default) i.toNat = true
      · rw [if_pos hbad] at hk
        replace hk := br_neg hk (by decide)
        refine br_of (fun _ => hk) (fun h1 => chk_inB (by omega) (by omega) (br_ne (fun _ => hk) (fun h2 => br_ne (fun _ => hk) (fun h3 => ?_))))
        exfalso
        unfold badJ at hbad
        rw [h1, h2, show (ps.getD i.toNat default).d = (i.toNat : Int) - 1 by omega] at hbad
        simp [hdR] at hbad
      rw [if_neg hbad] at hk
      simp only [badJ, Bool.and_eq_true, Bool.or_eq_true, decide_eq_true_eq] at hbad
      refine br_of (fun h1 => absurd ⟨by omega, .inl h1⟩ hbad) (fun h1 => chk_inB (by omega) (by omega) (br_ne (fun h2 => absurd ⟨by omega, .inr (.inl h2)⟩ hbad) (fun h2 => br_ne (fun h3 => absurd ⟨by omega, .inr (.inr (by omega))⟩ hbad) (fun h3 => ?_))))
      rw [wrap_i64 (n := (ps.getD 0 default).c - _) (by omega) (by omega)]
      refine chk_inB (by omega) (by omega) ?_
      have hsz : imin ((ps.getD 0 default).c - L.length) 59 = sizeJ (hdR ps).c i.toNat L := by rw [sizeJ, if_neg (by omega)]; rfl
      have hs := imin_rng ((ps.getD 0 default).c - L.length) 59 (by omega) (by omega)
      have hs2 : sizeJ (hdR ps).c i.toNat L = (ps.getD 0 default).c - L.length ∨ sizeJ (hdR ps).c i.toNat L = 59 := by rw [← hsz]; unfold imin; split <;> omega
      rw [hsz] at hs ⊢
      refine br_dec (fun h5 => ?_) (fun h5 => ?_)
      · rw [if_pos h5] at hk
        exact br_neg hk (by decide)
      rw [if_neg h5] at hk
      refine chk_of (cut_hi (by omega) (by omega)) (chk_dec (by simp; omega) (chk_inB (by omega) (by omega) ?_))
      have hl2 : ((L ++ (ps.getD i.toNat default).s.take (sizeJ (hdR ps).c i.toNat L).toNat).length : Int) = L.length + sizeJ (hdR ps).c i.toNat L := by simp only [List.length_append, List.length_take]; omega
      rw [wrap_i64 (n := i + 1) (by omega) (by omega)]
      refine br_eq (fun h6 => chk_inB (by omega) (by omega) ?_) (fun h6 => ?_)
      · obtain rfl : m = 0 := by omega
        simp only [joinF] at hk
        rw [show i + 1 = countI (hdR ps).c by omega]
        exact br_pos hk rfl
      · refine ih _ _ _ (by omega) ⟨by omega, by omega, .inr ⟨by omega, by omega, by omega, hf, by omega, by omega⟩⟩ ?_
        rw [joinG, if_neg (by omega), show (countI (hdR ps).c).toNat - (i + 1).toNat = m by omega, show (i + 1).toNat = i.toNat + 1 by omega]
        exact hk
theorem l29_4 : ∀ s k, L29_4 s k → Tri Proofs.Try.prog 86 (.loop (loopAt Proofs.Try.f29 4)) s k := by
  intro s k h
  unfold L29_4 at h
  split at h
  · obtain ⟨h1, h2⟩ := chk_iff.1 h
    exact iter_ok (c := c29_0) gam_ok (l := u29) a29 rfl mixed_ok (by kernel_rfl) (ls := []) rfl (.inl rfl) trivial (kps := kp29_4) (tr := tr29_4) (_) (i29_4 k _ _ _ _ (Nat.lt_succ_self _) (of_decide_eq_true h1) h2)
  · exact h.elim
theorem p29_0 (ps : List Rec) (post : AV → Option AV → Prop) (hin : InRL [.rs false 0 ps]) (hie : InRO none) (h : post (.tup [.int .i64 (joinC ps), .ints false .u8 (joinR ps).1, .int .i64 (joinU ps), .int .i64 (joinR ps).2]) none) : Ok (runF c29 pm29 Proofs.Try.f29 [.rs false 0 ps] none (post)) := by
  refine ⟨?_⟩
  rw [t29_0]
  have hl : ps.length ≤ maxLen := by simp only [InRL, InR] at hin; exact hin.1.2
  refine chk_dec ⟨by omega, by unfold maxLen at hl; omega, .inl ⟨rfl, rfl⟩⟩ ?_
  have e : joinG ps 0 [] = joinR ps := rfl
  rw [e]
  refine br_eq (fun h3 => ?_) (fun h3 => ?_)
  · refine post_of h ?_ rfl
    simp only [joinC, joinU, h3, if_pos]
  · refine post_of h ?_ rfl
    simp only [joinC, joinU, if_neg h3]
    rw [joinR_err ps h3]
theorem k29 : Keeps Proofs.Try.prog 29 S29 := by
  refine ⟨?_, Proofs.Try.f29, by kernel_rfl, by kernel_rfl, by kernel_rfl⟩
  intro args e post h
  unfold S29 at h
  split at h
  · refine Spec.inR fun hin hie => fun_ok' (c := c29) gam_ok (l := u29) a29 rfl mixed_ok (fn := Proofs.Try.f29) (show Proofs.Try.prog.funcs[29]? = some Proofs.Try.f29 by kernel_rfl) (by kernel_rfl) (ls := [(4, L29_4)]) rfl (.inr (by kernel_rfl)) ⟨l29_4, trivial⟩ (pm := pm29) (by simp [c29]) (by rintro ⟨t, l, h⟩; cases h) ?_
    exact p29_0 _ _ hin hie h
  · exact h.elim
end Go.Proofs.Ytokeanadhihlfaa.V
