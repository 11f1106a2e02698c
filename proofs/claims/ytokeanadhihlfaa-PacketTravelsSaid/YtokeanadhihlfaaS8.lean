import Derived.Test.YtokeanadhihlfaaPlans
import Derived.Test.YtokeanadhihlfaaVNum
import Derived.Test.YtokeanadhihlfaaProg
import Derived.Test.YtokeanadhihlfaaS0
import Derived.Test.YtokeanadhihlfaaS1
import Derived.Test.YtokeanadhihlfaaS2
import Derived.Test.YtokeanadhihlfaaS3
import Derived.Test.YtokeanadhihlfaaS4
import Derived.Test.YtokeanadhihlfaaS5
import Derived.Test.YtokeanadhihlfaaB1
import Derived.Test.YtokeanadhihlfaaP3
import Derived.KernelRfl
set_option linter.all false
set_option maxHeartbeats 1000000
namespace Go.Proofs.Ytokeanadhihlfaa.V
open Go
structure All9 (ch : Int) (ps : List Rec) : Prop where
  h : inK .u32 ch = true ∧ ∀ r ∈ ps, okR r ∧ RngR 0 r ∧ r.a = ch ∧ r.s.length ≤ 59
structure AllD (L : List Rec) : Prop where
  h : ∀ x ∈ L, decE x.s = 0
def pm9 : Pm := ⟨[.s, .s, .s, .s, .i .i64], .no, [.s]⟩
def u9 : List (Nat × Tr) := [(17, S17), (18, S18), (21, S21), (22, S22), (23, S23), (26, S26), (27, S27), (28, S28), (30, S30), (31, S31), (36, S36)]
theorem a9 : AllKeep Proofs.Try.prog u9 := ⟨k17, k18, k21, k22, k23, k26, k27, k28, k30, k31, k36, trivial⟩

def kp9_9 : List (Loc × Keep) := [(.t 0, .shp .s), (.t 11, .shp (.i .u8)), (.t 12, .shp .s), (.t 13, .shp (.r 0)), (.t 15, .ptr), (.t 16, .own 900 (.lr 28 1)), (.t 17, .shp .s)]
def tr9_9 : Trim := .some [0, 11, 12, 13, 16] [900] [10] []
def L9_9 : LTr
  | ⟨[(0, .int .u32 ch), (11, .ints false .u8 b), (12, .int .i64 c), (13, .rs false 0 ps), (15, .ptr 49 0 0), (16, .ownf 900), (17, .int .i64 i)], [(49, .box 83 [.ints false .i64 l, .int .i64 n]), (900, .linr 28 1 L)]⟩, k => chk (decide (0 ≤ i ∧ i ≤ ps.length ∧ ps.length ≤ 100 ∧ L.length ≤ 2 * i ∧ 0 ≤ n ∧ n ≤ l.length)) (Wire ch (ps.take i.toNat) L ∧ All9 ch ps ∧ ∀ L', Wire ch ps L' → L'.length ≤ 200 → k (.exit 0) ⟨[(0, .int .u32 ch), (11, .ints false .u8 b), (12, .int .i64 c), (13, .rs false 0 ps), (16, .ownf 900)], [(900, .linr 28 1 L')]⟩)
  | _, _ => False
def kp9_20 : List (Loc × Keep) := [(.t 0, .shp .s), (.t 11, .shp (.i .u8)), (.t 12, .shp .s), (.t 13, .shp (.r 0)), (.t 16, .shp (.r 1)), (.t 22, .own 901 (.lr 38 0)), (.t 23, .shp .s)]
def tr9_20 : Trim := .some [11, 12, 13, 22] [901] [10] []
def L9_20 : LTr
  | ⟨[(0, .int .u32 ch), (11, .ints false .u8 b), (12, .int .i64 c), (13, .rs false 0 ps), (16, .rs false 1 L), (22, .ownf 901), (23, .int .i64 i)], [(901, .linr 38 0 G)]⟩, k => chk (decide (0 ≤ i ∧ i ≤ L.length ∧ L.length ≤ 200 ∧ G.length ≤ i)) (AllD L ∧ k (.exit 2) ⟨[(11, .ints false .u8 b), (12, .int .i64 c), (13, .rs false 0 ps), (22, .ownf 901)], [(901, .linr 38 0 (G ++ ((L.drop i.toNat).map fun x => decR x.s).filter (fun r => r.a == ch)))]⟩)
  | _, _ => False
def c9_0 : Cfg := { n := 152, Γ := Gam, C := ofL u9, pm := pmL [(17, pm17), (18, pm18), (21, pm21), (22, pm22), (23, pm23), (26, pm26), (27, pm27), (28, pm28), (30, pm30), (31, pm31), (36, pm36)], plan := noP, L := lpL [], unroll := nmL [], keep := kpL [(9, kp9_9), (20, kp9_20)] }
def c9_1 : Cfg := { n := 152, Γ := Gam, C := ofL u9, pm := pmL [(17, pm17), (18, pm18), (21, pm21), (22, pm22), (23, pm23), (26, pm26), (27, pm27), (28, pm28), (30, pm30), (31, pm31), (36, pm36)], plan := noP, L := lpL [(9, L9_9)], unroll := nmL [], keep := kpL [(9, kp9_9), (20, kp9_20)] }
def c9 : Cfg := { n := 152, Γ := Gam, C := ofL u9, pm := pmL [(17, pm17), (18, pm18), (21, pm21), (22, pm22), (23, pm23), (26, pm26), (27, pm27), (28, pm28), (30, pm30), (31, pm31), (36, pm36)], plan := noP, L := lpL [(9, L9_9), (20, L9_20)], unroll := nmL [], keep := kpL [(9, kp9_9), (20, kp9_20)] }
def S9 : Tr
  | [.int .u32 ch, .int .i64 cmd, .int .i64 seed, .int .i64 size, .ints false .i64 l], none, post => post (.bool true) none
  | _, _, _ => False
theorem t9_0 (ch cmd seed size : Int) (l : List Int) (post : AV → Option AV → Prop) : runF c9 pm9 Proofs.Try.f9 [.int .u32 ch, .int .i64 cmd, .int .i64 seed, .int .i64 size, .ints false .i64 l] none post = (∀ (r : Int),
     (0 : Int) ≤ r ∧ r ≤ (4097 : Int) →
     chk
     (decide
     ((0 : Int) ≤ IntKind.u64.wrap seed % (99 : Int) ∧
     IntKind.u64.wrap seed % (99 : Int) ≤ (1000 : Int) ∧
     (0 : Int) ≤ imin r (4096 : Int) ∧ imin r (4096 : Int) ≤ (4097 : Int)))
     (∀ (l_1 : List Int),
     RngL IntKind.u8 l_1 →
     l_1.length = (imin r (4096 : Int)).toNat →
     br (splitE (IntKind.i64.wrap ((1 : Int) + IntKind.u64.wrap cmd % (127 : Int))) l_1.length != (0 : Int))
     (post (AV.bool false) none)
     (chk
     (decide
     ((0 : Int) ≤ (0 : Int) ∧
     (0 : Int) ≤
     @Nat.cast Int _
     (splitL ch (IntKind.i64.wrap ((1 : Int) + IntKind.u64.wrap cmd % (127 : Int))) l_1).length ∧
     (splitL ch (IntKind.i64.wrap ((1 : Int) + IntKind.u64.wrap cmd % (127 : Int))) l_1).length ≤
     (100 : Nat) ∧
     (0 : Int) ≤ (0 : Int) ∧ (0 : Int) ≤ (0 : Int) ∧ (0 : Int) ≤ @Nat.cast Int _ l.length))
     (Wire ch
     (List.take (Int.toNat (0 : Int))
     (splitL ch (IntKind.i64.wrap ((1 : Int) + IntKind.u64.wrap cmd % (127 : Int))) l_1))
     [] ∧
     All9 ch (splitL ch (IntKind.i64.wrap ((1 : Int) + IntKind.u64.wrap cmd % (127 : Int))) l_1) ∧
     ∀ (L' : List Rec),
     Wire ch (splitL ch (IntKind.i64.wrap ((1 : Int) + IntKind.u64.wrap cmd % (127 : Int))) l_1) L' →
     L'.length ≤ (200 : Nat) →
     chk
     (decide
     ((0 : Int) ≤ (0 : Int) ∧
     (0 : Int) ≤ @Nat.cast Int _ L'.length ∧ L'.length ≤ (200 : Nat) ∧ (0 : Int) ≤ (0 : Int)))
     (AllD L' ∧
     chk
     (decide
     (([] ++
     List.filter (fun (r : Rec) => r.1 == ch)
     (List.map (fun (x : Rec) => decR x.6) (List.drop (0 : Nat) L'))).length +
     (1 : Nat) ≤
     (1099511627776 : Nat)))
     (br
     ((joinR
     ([] ++
     List.filter (fun (r : Rec) => r.1 == ch)
     (List.map (fun (x : Rec) => decR x.6) (List.drop (0 : Nat) L')) ++
     [Rec.mk (0 : Int) (0 : Int) (0 : Int) (5 : Int) false []])).2 ==
     (0 : Int))
     (br
     (joinC
     ([] ++
     List.filter (fun (r : Rec) => r.1 == ch)
     (List.map (fun (x : Rec) => decR x.6) (List.drop (0 : Nat) L')) ++
     [Rec.mk (0 : Int) (0 : Int) (0 : Int) (5 : Int) false []]) ==
     IntKind.i64.wrap ((1 : Int) + IntKind.u64.wrap cmd % (127 : Int)))
     (br
     (strEq
     (joinR
     ([] ++
     List.filter (fun (r : Rec) => r.1 == ch)
     (List.map (fun (x : Rec) => decR x.6) (List.drop (0 : Nat) L')) ++
     [Rec.mk (0 : Int) (0 : Int) (0 : Int) (5 : Int) false []])).1
     l_1)
     (br
     (joinU
     ([] ++
     List.filter (fun (r : Rec) => r.1 == ch)
     (List.map (fun (x : Rec) => decR x.6) (List.drop (0 : Nat) L')) ++
     [Rec.mk (0 : Int) (0 : Int) (0 : Int) (5 : Int) false []]) ==
     @Nat.cast Int _
     (splitL ch
     (IntKind.i64.wrap ((1 : Int) + IntKind.u64.wrap cmd % (127 : Int)))
     l_1).length)
     (post (AV.bool true) none) (post (AV.bool false) none))
     (post (AV.bool false) none))
     (post (AV.bool false) none))
     (post (AV.bool false) none))))))) := by kernel_rfl
theorem q9_9 (ch c n i : Int) (b l : List Int) (ps L : List Rec) (k : Out → AS → Prop) : stepL c9_0 kp9_9 tr9_9 (loopAt Proofs.Try.f9 9) ⟨[(0, .int .u32 ch), (11, .ints false .u8 b), (12, .int .i64 c), (13, .rs false 0 ps), (15, .ptr 49 0 0), (16, .ownf 900), (17, .int .i64 i)], [(49, .box 83 [.ints false .i64 l, .int .i64 n]), (900, .linr 28 1 L)]⟩ k = (br (decide (i < @Nat.cast Int _ ps.length))
     (chk (inB i ps.length)
     (chk (decide ((0 : Int) < (128 : Int) ∧ (128 : Int) ≤ (1000000 : Int) ∧ (0 : Int) ≤ n ∧ n ≤ @Nat.cast Int _ l.length))
     (chk
     (decide
     ((0 : Int) < (60 : Int) ∧
     (60 : Int) ≤ (1000000 : Int) ∧ (0 : Int) ≤ nextN l n ∧ nextN l n ≤ @Nat.cast Int _ l.length))
     (∀ (l_1 : List Int),
     RngL IntKind.u8 l_1 →
     l_1.length = clampN (nextR l (nextN l n) (60 : Int)) →
     br
     (chkE (ps.getD i.toNat default).5 (ps.getD i.toNat default).2 (ps.getD i.toNat default).3
     (ps.getD i.toNat default).4 (ps.getD i.toNat default).6.length !=
     (0 : Int))
     (k Out.ret (AS.mk [((10 : Nat), AV.bool false)] []))
     (br (chkE false (0 : Int) (0 : Int) (nextR l n (128 : Int)) l_1.length != (0 : Int))
     (k Out.ret (AS.mk [((10 : Nat), AV.bool false)] []))
     (chk
     (decide
     ((0 : Int) < (2 : Int) ∧
     (2 : Int) ≤ (1000000 : Int) ∧
     (0 : Int) ≤ nextN l (nextN l n) ∧ nextN l (nextN l n) ≤ @Nat.cast Int _ l.length))
     (br (nextR l (nextN l (nextN l n)) (2 : Int) == (1 : Int))
     (chk
     (decide
     (L.length +
     [Rec.mk (0 : Int) (0 : Int) (0 : Int) (0 : Int) false
     (encL (IntKind.u32.wrap (ch + (1 : Int))) false (0 : Int) (0 : Int)
     (nextR l n (128 : Int)) l_1)].length ≤
     (1099511627776 : Nat)))
     (chk
     (decide
     ((L ++
     [Rec.mk (0 : Int) (0 : Int) (0 : Int) (0 : Int) false
     (encL (IntKind.u32.wrap (ch + (1 : Int))) false (0 : Int) (0 : Int)
     (nextR l n (128 : Int)) l_1)]).length +
     [Rec.mk (0 : Int) (0 : Int) (0 : Int) (0 : Int) false
     (encL (ps.getD i.toNat default).1 (ps.getD i.toNat default).5
     (ps.getD i.toNat default).2 (ps.getD i.toNat default).3
     (ps.getD i.toNat default).4 (ps.getD i.toNat default).6)].length ≤
     (1099511627776 : Nat)))
     (k Out.normal
     (AS.mk
     [((0 : Nat), AV.int IntKind.u32 ch), ((11 : Nat), AV.ints false IntKind.u8 b),
     ((12 : Nat), AV.int IntKind.i64 c), ((13 : Nat), AV.rs false (0 : Nat) ps),
     ((15 : Nat), AV.ptr (49 : Nat) (0 : Nat) (0 : Nat)), ((16 : Nat), AV.ownf (900 : Nat)),
     ((17 : Nat), AV.int IntKind.i64 (IntKind.i64.wrap (i + (1 : Int))))]
     [((49 : Nat),
     AV.box (83 : Nat)
     [AV.ints false IntKind.i64 l, AV.int IntKind.i64 (nextN l (nextN l (nextN l n)))]),
     ((900 : Nat),
     AV.linr (28 : Nat) (1 : Nat)
     (L ++
     [Rec.mk (0 : Int) (0 : Int) (0 : Int) (0 : Int) false
     (encL (IntKind.u32.wrap (ch + (1 : Int))) false (0 : Int) (0 : Int)
     (nextR l n (128 : Int)) l_1)] ++
     [Rec.mk (0 : Int) (0 : Int) (0 : Int) (0 : Int) false
     (encL (ps.getD i.toNat default).1 (ps.getD i.toNat default).5
     (ps.getD i.toNat default).2 (ps.getD i.toNat default).3
     (ps.getD i.toNat default).4 (ps.getD i.toNat default).6)]))]))))
     (chk
     (decide
     (L.length +
     [Rec.mk (0 : Int) (0 : Int) (0 : Int) (0 : Int) false
     (encL (ps.getD i.toNat default).1 (ps.getD i.toNat default).5
     (ps.getD i.toNat default).2 (ps.getD i.toNat default).3
     (ps.getD i.toNat default).4 (ps.getD i.toNat default).6)].length ≤
     (1099511627776 : Nat)))
     (k Out.normal
     (AS.mk
     [((0 : Nat), AV.int IntKind.u32 ch), ((11 : Nat), AV.ints false IntKind.u8 b),
     ((12 : Nat), AV.int IntKind.i64 c), ((13 : Nat), AV.rs false (0 : Nat) ps),
     ((15 : Nat), AV.ptr (49 : Nat) (0 : Nat) (0 : Nat)), ((16 : Nat), AV.ownf (900 : Nat)),
     ((17 : Nat), AV.int IntKind.i64 (IntKind.i64.wrap (i + (1 : Int))))]
     [((49 : Nat),
     AV.box (83 : Nat)
     [AV.ints false IntKind.i64 l, AV.int IntKind.i64 (nextN l (nextN l (nextN l n)))]),
     ((900 : Nat),
     AV.linr (28 : Nat) (1 : Nat)
     (L ++
     [Rec.mk (0 : Int) (0 : Int) (0 : Int) (0 : Int) false
     (encL (ps.getD i.toNat default).1 (ps.getD i.toNat default).5
     (ps.getD i.toNat default).2 (ps.getD i.toNat default).3
     (ps.getD i.toNat default).4 (ps.getD i.toNat default).6)]))]))))))))))
     (k (Out.exit (0 : Nat))
     (AS.mk
     [((0 : Nat), AV.int IntKind.u32 ch), ((11 : Nat), AV.ints false IntKind.u8 b), ((12 : Nat), AV.int IntKind.i64 c),
     ((13 : Nat), AV.rs false (0 : Nat) ps), ((16 : Nat), AV.ownf (900 : Nat))]
     [((900 : Nat), AV.linr (28 : Nat) (1 : Nat) L)]))) := by kernel_rfl

theorem i9_9 (k : Out → AS → Prop) (fuel : Nat) : ∀ (ch c n i : Int) (b l : List Int) (ps L : List Rec), (ps.length - i).toNat < fuel → (0 ≤ i ∧ i ≤ ps.length ∧ ps.length ≤ 100 ∧ L.length ≤ 2 * i ∧ 0 ≤ n ∧ n ≤ l.length) → (Wire ch (ps.take i.toNat) L ∧ All9 ch ps ∧ ∀ L', Wire ch ps L' → L'.length ≤ 200 → k (.exit 0) ⟨[(0, .int .u32 ch), (11, .ints false .u8 b), (12, .int .i64 c), (13, .rs false 0 ps), (16, .ownf 900)], [(900, .linr 28 1 L')]⟩) → iterL (stepL c9_0 kp9_9 tr9_9 (loopAt Proofs.Try.f9 9)) k fuel ⟨[(0, .int .u32 ch), (11, .ints false .u8 b), (12, .int .i64 c), (13, .rs false 0 ps), (15, .ptr 49 0 0), (16, .ownf 900), (17, .int .i64 i)], [(49, .box 83 [.ints false .i64 l, .int .i64 n]), (900, .linr 28 1 L)]⟩ := by
  induction fuel with
  | zero => intro ch c n i b l ps L hm; omega
  | succ fuel ih =>
    intro ch c n i b l ps L hm hp hk
    simp only [iterL]
    rw [q9_9]
    dsimp only
    obtain ⟨p1, p2, p3, p4, p5, p6⟩ := hp
    obtain ⟨hW, hA, hk⟩ := hk
    refine br_dec (fun hc => ?_) (fun hc => ?_)
    · have a0 : 0 ≤ n ∧ n ≤ l.length := ⟨p5, p6⟩
      have a1 := nextN_rng a0
      have a2 := nextN_rng a1
      have a3 := nextN_rng a2
      have hi : i.toNat < ps.length := by omega
      have hg : ps.getD i.toNat default = ps[i.toNat] := by simp [List.getD, List.getElem?_eq_getElem hi]
      have hmem : ps.getD i.toNat default ∈ ps := by rw [hg]; exact List.getElem_mem hi
      obtain ⟨o1, o2, o3, o4⟩ := hA.h.2 _ hmem
      have htk : ps.take (i + 1).toNat = ps.take i.toNat ++ [ps.getD i.toNat default] := by
        rw [show (i + 1).toNat = i.toNat + 1 by omega, List.take_succ_eq_append_getElem hi, hg]
      rw [wrap_i64 (n := i + 1) (by omega) (by omega)]
      refine chk_inB (by omega) (by omega) (chk_dec ⟨by omega, by omega, by omega, by omega⟩ (chk_dec ⟨by omega, by omega, by omega, by omega⟩ (fun x hx hl => ?_)))
      have r60 := nextR_rng l (nextN l n) 60 (by omega)
      have r128 := nextR_rng l n 128 (by omega)
      have hxl : x.length ≤ 59 := by rw [hl]; unfold clampN; omega
      have ho : okR ⟨IntKind.u32.wrap (ch + 1), 0, 0, nextR l n 128, false, x⟩ := by
        simp only [okR, chkE]
        rw [if_neg (by omega), if_neg (by decide), if_neg (by omega)]
      have hch := in_u32.1 hA.h.1
      have hcw : IntKind.u32.wrap (ch + 1) ≠ ch ∧ 0 ≤ IntKind.u32.wrap (ch + 1) ∧ IntKind.u32.wrap (ch + 1) ≤ 4294967295 := by rw [wrap_u32_eq]; omega
      have hnx : RngR 0 ⟨IntKind.u32.wrap (ch + 1), 0, 0, nextR l n 128, false, x⟩ := ⟨in_u32.2 hcw.2, (show inK .i64 0 = true by decide), (show inK .i64 0 = true by decide), (show inK .i64 (nextR l n 128) = true by rw [in_i64]; omega), hx, by show x.length ≤ maxLen; unfold maxLen; omega⟩
      have e2 : encL (IntKind.u32.wrap (ch + 1)) false 0 0 (nextR l n 128) x = encB (IntKind.u32.wrap (ch + 1)) false 0 0 (nextR l n 128) x := encL_ok ⟨IntKind.u32.wrap (ch + 1), 0, 0, nextR l n 128, false, x⟩ ho
      refine br_ne (fun hh => absurd o1 hh) (fun _ => br_ne (fun hh => absurd ho hh) (fun _ => chk_dec ⟨by omega, by omega, by omega, by omega⟩ ?_))
      rw [encL_ok _ o1, e2]
      refine br_eq (fun _ => ?_) (fun _ => ?_)
      · refine chk_dec (by simp; omega) (chk_dec (by simp; omega) ?_)
        refine ih _ _ _ _ _ _ _ _ (by omega) ⟨by omega, by omega, by omega, by simp; omega, by omega, by omega⟩ ⟨?_, hA, hk⟩
        rw [htk]
        exact (hW.other hnx ho hcw.1).mine o2 o1 o3
      · refine chk_dec (by simp; omega) ?_
        refine ih _ _ _ _ _ _ _ _ (by omega) ⟨by omega, by omega, by omega, by simp; omega, by omega, by omega⟩ ⟨?_, hA, hk⟩
        rw [htk]
        exact hW.mine o2 o1 o3
    · rw [List.take_of_length_le (by omega)] at hW
      exact hk L hW (by omega)
theorem l9_9 : ∀ s k, L9_9 s k → Tri Proofs.Try.prog 152 (.loop (loopAt Proofs.Try.f9 9)) s k := by
  intro s k h
  unfold L9_9 at h
  split at h
  · obtain ⟨h1, h2⟩ := chk_iff.1 h
    exact iter_ok (c := c9_0) gam_ok (l := u9) a9 rfl mixed_ok (by kernel_rfl) (ls := []) rfl (.inl rfl) trivial (kps := kp9_9) (tr := tr9_9) (_) (i9_9 k _ _ _ _ _ _ _ _ _ (Nat.lt_succ_self _) (of_decide_eq_true h1) h2)
  · exact h.elim
theorem q9_20 (ch c i : Int) (b : List Int) (ps L G : List Rec) (k : Out → AS → Prop) : stepL c9_1 kp9_20 tr9_20 (loopAt Proofs.Try.f9 20) ⟨[(0, .int .u32 ch), (11, .ints false .u8 b), (12, .int .i64 c), (13, .rs false 0 ps), (16, .rs false 1 L), (22, .ownf 901), (23, .int .i64 i)], [(901, .linr 38 0 G)]⟩ k = (br (decide (i < @Nat.cast Int _ L.length))
     (chk (inB i L.length)
     (br (decE (L.getD i.toNat default).6 != (0 : Int)) (k Out.ret (AS.mk [((10 : Nat), AV.bool false)] []))
     (br ((decR (L.getD i.toNat default).6).1 == ch)
     (chk
     (decide
     (G.length +
     [Rec.mk (decR (L.getD i.toNat default).6).1 (decR (L.getD i.toNat default).6).2
     (decR (L.getD i.toNat default).6).3 (decR (L.getD i.toNat default).6).4
     (decR (L.getD i.toNat default).6).5 (decR (L.getD i.toNat default).6).6].length ≤
     (1099511627776 : Nat)))
     (k Out.normal
     (AS.mk
     [((0 : Nat), AV.int IntKind.u32 ch), ((11 : Nat), AV.ints false IntKind.u8 b),
     ((12 : Nat), AV.int IntKind.i64 c), ((13 : Nat), AV.rs false (0 : Nat) ps),
     ((16 : Nat), AV.rs false (1 : Nat) L), ((22 : Nat), AV.ownf (901 : Nat)),
     ((23 : Nat), AV.int IntKind.i64 (IntKind.i64.wrap (i + (1 : Int))))]
     [((901 : Nat),
     AV.linr (38 : Nat) (0 : Nat)
     (G ++
     [Rec.mk (decR (L.getD i.toNat default).6).1 (decR (L.getD i.toNat default).6).2
     (decR (L.getD i.toNat default).6).3 (decR (L.getD i.toNat default).6).4
     (decR (L.getD i.toNat default).6).5 (decR (L.getD i.toNat default).6).6]))])))
     (k Out.normal
     (AS.mk
     [((0 : Nat), AV.int IntKind.u32 ch), ((11 : Nat), AV.ints false IntKind.u8 b),
     ((12 : Nat), AV.int IntKind.i64 c), ((13 : Nat), AV.rs false (0 : Nat) ps),
     ((16 : Nat), AV.rs false (1 : Nat) L), ((22 : Nat), AV.ownf (901 : Nat)),
     ((23 : Nat), AV.int IntKind.i64 (IntKind.i64.wrap (i + (1 : Int))))]
     [((901 : Nat), AV.linr (38 : Nat) (0 : Nat) G)])))))
     (k (Out.exit (2 : Nat))
     (AS.mk
     [((11 : Nat), AV.ints false IntKind.u8 b), ((12 : Nat), AV.int IntKind.i64 c),
     ((13 : Nat), AV.rs false (0 : Nat) ps), ((22 : Nat), AV.ownf (901 : Nat))]
     [((901 : Nat), AV.linr (38 : Nat) (0 : Nat) G)]))) := by kernel_rfl

theorem i9_20 (k : Out → AS → Prop) (fuel : Nat) : ∀ (ch c i : Int) (b : List Int) (ps L G : List Rec), (L.length - i).toNat < fuel → (0 ≤ i ∧ i ≤ L.length ∧ L.length ≤ 200 ∧ G.length ≤ i) → (AllD L ∧ k (.exit 2) ⟨[(11, .ints false .u8 b), (12, .int .i64 c), (13, .rs false 0 ps), (22, .ownf 901)], [(901, .linr 38 0 (G ++ ((L.drop i.toNat).map fun x => decR x.s).filter (fun r => r.a == ch)))]⟩) → iterL (stepL c9_1 kp9_20 tr9_20 (loopAt Proofs.Try.f9 20)) k fuel ⟨[(0, .int .u32 ch), (11, .ints false .u8 b), (12, .int .i64 c), (13, .rs false 0 ps), (16, .rs false 1 L), (22, .ownf 901), (23, .int .i64 i)], [(901, .linr 38 0 G)]⟩ := by
  induction fuel with
  | zero => intro ch c i b ps L G hm; omega
  | succ fuel ih =>
    intro ch c i b ps L G hm hp hk
    simp only [iterL]
    rw [q9_20]
    dsimp only
    obtain ⟨p1, p2, p3, p4⟩ := hp
    obtain ⟨hD, hk⟩ := hk
    refine br_dec (fun hc => ?_) (fun hc => ?_)
    · have hi : i.toNat < L.length := by omega
      have hg : L.getD i.toNat default = L[i.toNat] := by simp [List.getD, List.getElem?_eq_getElem hi]
      have hd : L.drop i.toNat = L.getD i.toNat default :: L.drop (i.toNat + 1) := by rw [hg]; exact List.drop_eq_getElem_cons hi
      have hmem : L.getD i.toNat default ∈ L := by rw [hg]; exact List.getElem_mem hi
      rw [hd, List.map_cons] at hk
      rw [wrap_i64 (n := i + 1) (by omega) (by omega)]
      refine chk_inB (by omega) (by omega) (br_ne (fun hh => absurd (hD.h _ hmem) hh) (fun _ => br_eq (fun h1 => chk_dec (by simp; omega) ?_) (fun h1 => ?_)))
      · refine ih _ _ _ _ _ _ _ (by omega) ⟨by omega, by omega, by omega, by simp; omega⟩ ⟨hD, k_of hk ?_⟩
        rw [List.filter_cons_of_pos (by simpa using h1), show (i + 1).toNat = i.toNat + 1 by omega]
        simp
      · refine ih _ _ _ _ _ _ _ (by omega) ⟨by omega, by omega, by omega, by omega⟩ ⟨hD, k_of hk ?_⟩
        rw [List.filter_cons_of_neg (by simpa using h1), show (i + 1).toNat = i.toNat + 1 by omega]
    · rw [List.drop_of_length_le (by omega)] at hk
      exact k_of hk (by simp)
theorem l9_20 : ∀ s k, L9_20 s k → Tri Proofs.Try.prog 152 (.loop (loopAt Proofs.Try.f9 20)) s k := by
  intro s k h
  unfold L9_20 at h
  split at h
  · obtain ⟨h1, h2⟩ := chk_iff.1 h
    exact iter_ok (c := c9_1) gam_ok (l := u9) a9 rfl mixed_ok (by kernel_rfl) (ls := [(9, L9_9)]) rfl (.inr (by kernel_rfl)) ⟨l9_9, trivial⟩ (kps := kp9_20) (tr := tr9_20) (_) (i9_20 k _ _ _ _ _ _ _ _ (Nat.lt_succ_self _) (of_decide_eq_true h1) h2)
  · exact h.elim
theorem p9_0 (ch cmd seed size : Int) (l : List Int) (post : AV → Option AV → Prop) (hin : InRL [.int .u32 ch, .int .i64 cmd, .int .i64 seed, .int .i64 size, .ints false .i64 l]) (hie : InRO none) (h : post (.bool true) none) : Ok (runF c9 pm9 Proofs.Try.f9 [.int .u32 ch, .int .i64 cmd, .int .i64 seed, .int .i64 size, .ints false .i64 l] none (post)) := by
  refine ⟨?_⟩
  rw [t9_0]
  intro r hr
  have hm := imin_rng r 4096 (by omega) (by omega)
  have u1 := Int.emod_nonneg (IntKind.u64.wrap seed) (show (99 : Int) ≠ 0 by omega)
  have u2 := Int.emod_lt_of_pos (IntKind.u64.wrap seed) (show (0 : Int) < 99 by omega)
  have u3 := Int.emod_nonneg (IntKind.u64.wrap cmd) (show (127 : Int) ≠ 0 by omega)
  have u4 := Int.emod_lt_of_pos (IntKind.u64.wrap cmd) (show (0 : Int) < 127 by omega)
  refine chk_dec ⟨by omega, by omega, by omega, by omega⟩ (fun b hb hl => ?_)
  rw [wrap_i64 (n := 1 + IntKind.u64.wrap cmd % 127) (by omega) (by omega)]
  generalize hc : 1 + IntKind.u64.wrap cmd % 127 = c
  have he : splitE c b.length = 0 := by rw [splitE, if_neg (by omega), if_neg (by omega)]
  have hn := split_len ch c b he
  have hcd := count_div (c := b.length) (by omega) (by omega)
  have hch : inK .u32 ch = true := by simp only [InRL, InR] at hin; exact hin.1
  refine br_ne (fun hh => absurd he hh) (fun _ => chk_dec ⟨by omega, by omega, by omega, by omega, by omega, by omega⟩ ⟨Wire.nil ch, ⟨hch, split_ok ch c b hb hch he⟩, fun L' hW hL => chk_dec ⟨by omega, by omega, by omega, by omega⟩ ⟨⟨fun x hx => (hW.ok x hx).2⟩, ?_⟩⟩)
  obtain ⟨j1, j2, j3⟩ := join_split ch c b he [⟨0, 0, 0, 5, false, []⟩]
  rw [List.nil_append, List.drop_zero, hW.got, j1, j2, j3]
  refine chk_dec (by simp; omega) (br_eq (fun _ => br_eq (fun _ => br_str (fun _ => br_eq (fun _ => h) (fun hh => absurd rfl hh)) (fun hh => absurd rfl hh)) (fun hh => absurd rfl hh)) (fun hh => absurd rfl hh))
theorem k9 : Keeps Proofs.Try.prog 9 S9 := by
  refine ⟨?_, Proofs.Try.f9, by kernel_rfl, by kernel_rfl, by kernel_rfl⟩
  intro args e post h
  unfold S9 at h
  split at h
  · refine Spec.inR fun hin hie => fun_ok' (c := c9) gam_ok (l := u9) a9 rfl mixed_ok (fn := Proofs.Try.f9) (show Proofs.Try.prog.funcs[9]? = some Proofs.Try.f9 by kernel_rfl) (by kernel_rfl) (ls := [(9, L9_9), (20, L9_20)]) rfl (.inr (by kernel_rfl)) ⟨l9_9, l9_20, trivial⟩ (pm := pm9) (by simp [c9]) (by rintro ⟨t, l, h⟩; cases h) ?_
    exact p9_0 _ _ _ _ _ _ hin hie h
  · exact h.elim
end Go.Proofs.Ytokeanadhihlfaa.V
