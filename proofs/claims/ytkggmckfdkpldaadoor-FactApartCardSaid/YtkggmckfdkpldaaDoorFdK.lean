/-
  The switch of made's Dice.Code.
  Conditions: the dice and the operation lie in memory.
-/
import Derived.Test.YtkggmckfdkpldaaDoorFdH
import Derived.Test.YtkggmckfdkpldaaDoorFdI
import Derived.Test.YtkggmckfdkpldaaDoorFdJ
namespace Go.Proofs.YtkggmckfdkpldaaDoor
open Go.RowKit

set_option maxHeartbeats 6400000 in
set_option maxRecDepth 100000 in
theorem mkSwitch {dd cb ob n k r : Nat} {kk : Int} {xs : List Int} {wn wo : World} {Q : Exit → Act → World → Prop} {s1 s2 s3 s4 s9 s10 s11 s12 s13 s14 s15 s16 s17 s18 s19 s20 s21 s22 s23 s24 s25 s26 s27 s28 s29 s30 s32 s33 s34 s35 s36 s37 s38 s39 s40 s41 s42 s43 s44 s45 s46 s47 s48 s49 s50 s51 s52 s53 s54 s55 s56 s57 s58 s59 s60 s61 s62 s63 s64 s65 s66 s67 s68 s69 s70 s71 s72 s73 s74 s75 s76 s77 s78 s79 s80 s81 s82 s83 s84 s85 s86 s87 s88 s89 s90 s91 s92 s93 s94 s95 s96 s97 s98 s99 s100 s101 s102 s103 s104 s105 s106 s107 s108 s109 s110 s111 s112 s113 s114 s115 s116 s117 s118 s119 s120 s121 s122 s123 s124 s125 s126 s127 s128 s129 s130 s131 s132 s133 s134 s135 s136 s137 s138 s139 s140 s141 s142 s143 s144 s145 s146 s147 s148 s149 s150 s151 s152 s153 s154 s155 s156 s157 s158 s159 s160 s161 s162 s163 s164 s165 s166 s167 s168 s169 s170 s171 s172 s173 s174 s175 s176 s177 s178 s179 s180 s181 s182 s183 s184 s185 s186 s187 s188 s189 s190 s191 s192 s193 s194 s195 s196 s197 s198 s199 s200 s201 s202 s203 s204 s205 s206 s207 s208 : Value} {cd : Code} (hcode : (Tryd.f9.body.map (subC [1, 1, 1, 0, 1, 0, 0, 1, 0, 0, 1, 0, 1])) = some cd)
    (hk1 : 1 ≤ kk ∧ kk ≤ 19) (hr1 : 1 ≤ r) (hr2 : r ≤ 200) (hn2 : n ≤ 14) (hlt : k < n) (hdo : dd < ob) (hno : wn.heap.size ≤ ob) (hob : ob ≤ wn.heap.size) (hcd : cb ≠ dd) (hco : cb < ob) (hom : Om dd ob xs wn wo (iv kk) (iv 0) (iv 0) (iv 0) (.slice none 0 0) (sv [])) (hcr : wo.cell? ⟨cb, 1, none⟩ = some (iv r))
    (hQ : ∀ (x9 x10 x32 x33 x34 x35 x36 x37 x38 x39 x40 x41 x42 x43 x44 x45 x46 x47 x48 x49 x50 x51 x52 x53 x54 x55 x56 x57 x58 x59 x60 x61 x62 x63 x64 x65 x66 x67 x68 x69 x70 x71 x72 x73 x74 x75 x76 x77 x78 x79 x80 x81 x82 x83 x84 x85 x86 x87 x88 x89 x90 x91 x92 x93 x94 x95 x96 x97 x98 x99 x100 x101 x102 x103 x104 x105 x106 x107 x108 x109 x110 x111 x112 x113 x114 x115 x116 x117 x118 x119 x120 x121 x122 x123 x124 x125 x126 x127 x128 x129 x130 x131 x132 x133 x134 x135 x136 x137 x138 x139 x140 x141 x142 x143 x144 x145 x146 x147 x148 x149 x150 x151 x152 x153 x154 x155 x156 x157 x158 x159 x160 x161 x162 x163 x164 x165 x166 x167 x168 x169 x170 x171 x172 x173 x174 x175 x176 x177 x178 x179 x180 x181 x182 x183 x184 x185 x186 x187 x188 x189 x190 x191 : Value) (w' : World), OpMk dd ob xs wn w' → Q .normal ⟨#[.pointer (some ⟨dd, 0, none⟩), s1, s2, s3, s4, .int .i64 (n : Int), .pointer (some ⟨cb, 0, none⟩), .int .i64 (k : Int), .pointer (some ⟨ob, 0, none⟩), x9, x10, s11, s12, s13, s14, s15, s16, s17, s18, s19, s20, s21, s22, s23, s24, s25, s26, s27, s28, s29, s30, iv kk, x32, x33, x34, x35, x36, x37, x38, x39, x40, x41, x42, x43, x44, x45, x46, x47, x48, x49, x50, x51, x52, x53, x54, x55, x56, x57, x58, x59, x60, x61, x62, x63, x64, x65, x66, x67, x68, x69, x70, x71, x72, x73, x74, x75, x76, x77, x78, x79, x80, x81, x82, x83, x84, x85, x86, x87, x88, x89, x90, x91, x92, x93, x94, x95, x96, x97, x98, x99, x100, x101, x102, x103, x104, x105, x106, x107, x108, x109, x110, x111, x112, x113, x114, x115, x116, x117, x118, x119, x120, x121, x122, x123, x124, x125, x126, x127, x128, x129, x130, x131, x132, x133, x134, x135, x136, x137, x138, x139, x140, x141, x142, x143, x144, x145, x146, x147, x148, x149, x150, x151, x152, x153, x154, x155, x156, x157, x158, x159, x160, x161, x162, x163, x164, x165, x166, x167, x168, x169, x170, x171, x172, x173, x174, x175, x176, x177, x178, x179, x180, x181, x182, x183, x184, x185, x186, x187, x188, x189, x190, x191, s192, s193, s194, s195, s196, s197, s198, s199, s200, s201, s202, s203, s204, s205, s206, s207, s208], []⟩ w') :
    cd.wp Tryd.prog Q ⟨#[.pointer (some ⟨dd, 0, none⟩), s1, s2, s3, s4, .int .i64 (n : Int), .pointer (some ⟨cb, 0, none⟩), .int .i64 (k : Int), .pointer (some ⟨ob, 0, none⟩), s9, s10, s11, s12, s13, s14, s15, s16, s17, s18, s19, s20, s21, s22, s23, s24, s25, s26, s27, s28, s29, s30, iv kk, s32, s33, s34, s35, s36, s37, s38, s39, s40, s41, s42, s43, s44, s45, s46, s47, s48, s49, s50, s51, s52, s53, s54, s55, s56, s57, s58, s59, s60, s61, s62, s63, s64, s65, s66, s67, s68, s69, s70, s71, s72, s73, s74, s75, s76, s77, s78, s79, s80, s81, s82, s83, s84, s85, s86, s87, s88, s89, s90, s91, s92, s93, s94, s95, s96, s97, s98, s99, s100, s101, s102, s103, s104, s105, s106, s107, s108, s109, s110, s111, s112, s113, s114, s115, s116, s117, s118, s119, s120, s121, s122, s123, s124, s125, s126, s127, s128, s129, s130, s131, s132, s133, s134, s135, s136, s137, s138, s139, s140, s141, s142, s143, s144, s145, s146, s147, s148, s149, s150, s151, s152, s153, s154, s155, s156, s157, s158, s159, s160, s161, s162, s163, s164, s165, s166, s167, s168, s169, s170, s171, s172, s173, s174, s175, s176, s177, s178, s179, s180, s181, s182, s183, s184, s185, s186, s187, s188, s189, s190, s191, s192, s193, s194, s195, s196, s197, s198, s199, s200, s201, s202, s203, s204, s205, s206, s207, s208], []⟩ wo := by
  have hcode2 : some _ = some cd := hcode
  obtain rfl := Option.some.inj hcode2
  clear hcode hcode2
  conv in (subC _ _) => whnf
  have HQ := Lib.hid hQ
  clear hQ
  have HOM := Lib.hid hom
  have HCR := Lib.hid hcr
  clear hom hcr
  go_upto_if 32 with fail
  by_cases e1 : kk = 1
  · subst e1
    refine wp_cond_true rfl ?_
    refine mk1 rfl hr1 hr2 hn2 hlt hdo hno hob hcd hco HOM.out HCR.out ?_
    intros
    rename_i hmk
    refine HQ.out _ _ _ _ _ _ _ _ _ _ _ _ _ _ _ _ _ _ _ _ _ _ _ _ _ _ _ _ _ _ _ _ _ _ _ _ _ _ _ _ _ _ _ _ _ _ _ _ _ _ _ _ _ _ _ _ _ _ _ _ _ _ _ _ _ _ _ _ _ _ _ _ _ _ _ _ _ _ _ _ _ _ _ _ _ _ _ _ _ _ _ _ _ _ _ _ _ _ _ _ _ _ _ _ _ _ _ _ _ _ _ _ _ _ _ _ _ _ _ _ _ _ _ _ _ _ _ _ _ _ _ _ _ _ _ _ _ _ _ _ _ _ _ _ _ _ _ _ _ _ _ _ _ _ _ _ _ _ _ _ _ _ _ hmk
  have n1 : (kk == 1) = false := by simp; omega
  refine wp_cond_false (congrArg Value.bool n1) ?_
  clear n1
  go_upto_if 45 with fail
  by_cases e2 : kk = 2
  · subst e2
    refine wp_cond_true rfl ?_
    go_upto_if 45 with fail
    refine wp_cond_true rfl ?_
    refine mk13 rfl (by omega) hr1 hr2 hn2 hlt hdo hno hob hcd hco HOM.out HCR.out ?_
    intros
    rename_i hmk
    refine HQ.out _ _ _ _ _ _ _ _ _ _ _ _ _ _ _ _ _ _ _ _ _ _ _ _ _ _ _ _ _ _ _ _ _ _ _ _ _ _ _ _ _ _ _ _ _ _ _ _ _ _ _ _ _ _ _ _ _ _ _ _ _ _ _ _ _ _ _ _ _ _ _ _ _ _ _ _ _ _ _ _ _ _ _ _ _ _ _ _ _ _ _ _ _ _ _ _ _ _ _ _ _ _ _ _ _ _ _ _ _ _ _ _ _ _ _ _ _ _ _ _ _ _ _ _ _ _ _ _ _ _ _ _ _ _ _ _ _ _ _ _ _ _ _ _ _ _ _ _ _ _ _ _ _ _ _ _ _ _ _ _ _ _ _ hmk
  have n2 : (kk == 2) = false := by simp; omega
  refine wp_cond_false (congrArg Value.bool n2) ?_
  clear n2
  go_upto_if 45 with fail
  by_cases e10 : kk = 10
  · subst e10
    refine wp_cond_true rfl ?_
    go_upto_if 45 with fail
    refine wp_cond_true rfl ?_
    refine mk13 rfl (by omega) hr1 hr2 hn2 hlt hdo hno hob hcd hco HOM.out HCR.out ?_
    intros
    rename_i hmk
    refine HQ.out _ _ _ _ _ _ _ _ _ _ _ _ _ _ _ _ _ _ _ _ _ _ _ _ _ _ _ _ _ _ _ _ _ _ _ _ _ _ _ _ _ _ _ _ _ _ _ _ _ _ _ _ _ _ _ _ _ _ _ _ _ _ _ _ _ _ _ _ _ _ _ _ _ _ _ _ _ _ _ _ _ _ _ _ _ _ _ _ _ _ _ _ _ _ _ _ _ _ _ _ _ _ _ _ _ _ _ _ _ _ _ _ _ _ _ _ _ _ _ _ _ _ _ _ _ _ _ _ _ _ _ _ _ _ _ _ _ _ _ _ _ _ _ _ _ _ _ _ _ _ _ _ _ _ _ _ _ _ _ _ _ _ _ hmk
  have n10 : (kk == 10) = false := by simp; omega
  refine wp_cond_false (congrArg Value.bool n10) ?_
  clear n10
  go_upto_if 45 with fail
  by_cases e11 : kk = 11
  · subst e11
    refine wp_cond_true rfl ?_
    refine mk13 rfl (by omega) hr1 hr2 hn2 hlt hdo hno hob hcd hco HOM.out HCR.out ?_
    intros
    rename_i hmk
    refine HQ.out _ _ _ _ _ _ _ _ _ _ _ _ _ _ _ _ _ _ _ _ _ _ _ _ _ _ _ _ _ _ _ _ _ _ _ _ _ _ _ _ _ _ _ _ _ _ _ _ _ _ _ _ _ _ _ _ _ _ _ _ _ _ _ _ _ _ _ _ _ _ _ _ _ _ _ _ _ _ _ _ _ _ _ _ _ _ _ _ _ _ _ _ _ _ _ _ _ _ _ _ _ _ _ _ _ _ _ _ _ _ _ _ _ _ _ _ _ _ _ _ _ _ _ _ _ _ _ _ _ _ _ _ _ _ _ _ _ _ _ _ _ _ _ _ _ _ _ _ _ _ _ _ _ _ _ _ _ _ _ _ _ _ _ hmk
  have n11 : (kk == 11) = false := by simp; omega
  refine wp_cond_false (congrArg Value.bool n11) ?_
  clear n11
  go_upto_if 59 with fail
  by_cases e3 : kk = 3
  · subst e3
    refine wp_cond_true rfl ?_
    go_upto_if 59 with fail
    refine wp_cond_true rfl ?_
    refine mk21 rfl (by omega) hr1 hr2 hn2 hlt hdo hno hob hcd hco HOM.out HCR.out ?_
    intros
    rename_i hmk
    refine HQ.out _ _ _ _ _ _ _ _ _ _ _ _ _ _ _ _ _ _ _ _ _ _ _ _ _ _ _ _ _ _ _ _ _ _ _ _ _ _ _ _ _ _ _ _ _ _ _ _ _ _ _ _ _ _ _ _ _ _ _ _ _ _ _ _ _ _ _ _ _ _ _ _ _ _ _ _ _ _ _ _ _ _ _ _ _ _ _ _ _ _ _ _ _ _ _ _ _ _ _ _ _ _ _ _ _ _ _ _ _ _ _ _ _ _ _ _ _ _ _ _ _ _ _ _ _ _ _ _ _ _ _ _ _ _ _ _ _ _ _ _ _ _ _ _ _ _ _ _ _ _ _ _ _ _ _ _ _ _ _ _ _ _ _ hmk
  have n3 : (kk == 3) = false := by simp; omega
  refine wp_cond_false (congrArg Value.bool n3) ?_
  clear n3
  go_upto_if 59 with fail
  by_cases e4 : kk = 4
  · subst e4
    refine wp_cond_true rfl ?_
    go_upto_if 59 with fail
    refine wp_cond_true rfl ?_
    refine mk21 rfl (by omega) hr1 hr2 hn2 hlt hdo hno hob hcd hco HOM.out HCR.out ?_
    intros
    rename_i hmk
    refine HQ.out _ _ _ _ _ _ _ _ _ _ _ _ _ _ _ _ _ _ _ _ _ _ _ _ _ _ _ _ _ _ _ _ _ _ _ _ _ _ _ _ _ _ _ _ _ _ _ _ _ _ _ _ _ _ _ _ _ _ _ _ _ _ _ _ _ _ _ _ _ _ _ _ _ _ _ _ _ _ _ _ _ _ _ _ _ _ _ _ _ _ _ _ _ _ _ _ _ _ _ _ _ _ _ _ _ _ _ _ _ _ _ _ _ _ _ _ _ _ _ _ _ _ _ _ _ _ _ _ _ _ _ _ _ _ _ _ _ _ _ _ _ _ _ _ _ _ _ _ _ _ _ _ _ _ _ _ _ _ _ _ _ _ _ hmk
  have n4 : (kk == 4) = false := by simp; omega
  refine wp_cond_false (congrArg Value.bool n4) ?_
  clear n4
  go_upto_if 59 with fail
  by_cases e5 : kk = 5
  · subst e5
    refine wp_cond_true rfl ?_
    go_upto_if 59 with fail
    refine wp_cond_true rfl ?_
    refine mk21 rfl (by omega) hr1 hr2 hn2 hlt hdo hno hob hcd hco HOM.out HCR.out ?_
    intros
    rename_i hmk
    refine HQ.out _ _ _ _ _ _ _ _ _ _ _ _ _ _ _ _ _ _ _ _ _ _ _ _ _ _ _ _ _ _ _ _ _ _ _ _ _ _ _ _ _ _ _ _ _ _ _ _ _ _ _ _ _ _ _ _ _ _ _ _ _ _ _ _ _ _ _ _ _ _ _ _ _ _ _ _ _ _ _ _ _ _ _ _ _ _ _ _ _ _ _ _ _ _ _ _ _ _ _ _ _ _ _ _ _ _ _ _ _ _ _ _ _ _ _ _ _ _ _ _ _ _ _ _ _ _ _ _ _ _ _ _ _ _ _ _ _ _ _ _ _ _ _ _ _ _ _ _ _ _ _ _ _ _ _ _ _ _ _ _ _ _ _ hmk
  have n5 : (kk == 5) = false := by simp; omega
  refine wp_cond_false (congrArg Value.bool n5) ?_
  clear n5
  go_upto_if 59 with fail
  by_cases e6 : kk = 6
  · subst e6
    refine wp_cond_true rfl ?_
    go_upto_if 59 with fail
    refine wp_cond_true rfl ?_
    refine mk21 rfl (by omega) hr1 hr2 hn2 hlt hdo hno hob hcd hco HOM.out HCR.out ?_
    intros
    rename_i hmk
    refine HQ.out _ _ _ _ _ _ _ _ _ _ _ _ _ _ _ _ _ _ _ _ _ _ _ _ _ _ _ _ _ _ _ _ _ _ _ _ _ _ _ _ _ _ _ _ _ _ _ _ _ _ _ _ _ _ _ _ _ _ _ _ _ _ _ _ _ _ _ _ _ _ _ _ _ _ _ _ _ _ _ _ _ _ _ _ _ _ _ _ _ _ _ _ _ _ _ _ _ _ _ _ _ _ _ _ _ _ _ _ _ _ _ _ _ _ _ _ _ _ _ _ _ _ _ _ _ _ _ _ _ _ _ _ _ _ _ _ _ _ _ _ _ _ _ _ _ _ _ _ _ _ _ _ _ _ _ _ _ _ _ _ _ _ _ hmk
  have n6 : (kk == 6) = false := by simp; omega
  refine wp_cond_false (congrArg Value.bool n6) ?_
  clear n6
  go_upto_if 59 with fail
  by_cases e7 : kk = 7
  · subst e7
    refine wp_cond_true rfl ?_
    go_upto_if 59 with fail
    refine wp_cond_true rfl ?_
    refine mk21 rfl (by omega) hr1 hr2 hn2 hlt hdo hno hob hcd hco HOM.out HCR.out ?_
    intros
    rename_i hmk
    refine HQ.out _ _ _ _ _ _ _ _ _ _ _ _ _ _ _ _ _ _ _ _ _ _ _ _ _ _ _ _ _ _ _ _ _ _ _ _ _ _ _ _ _ _ _ _ _ _ _ _ _ _ _ _ _ _ _ _ _ _ _ _ _ _ _ _ _ _ _ _ _ _ _ _ _ _ _ _ _ _ _ _ _ _ _ _ _ _ _ _ _ _ _ _ _ _ _ _ _ _ _ _ _ _ _ _ _ _ _ _ _ _ _ _ _ _ _ _ _ _ _ _ _ _ _ _ _ _ _ _ _ _ _ _ _ _ _ _ _ _ _ _ _ _ _ _ _ _ _ _ _ _ _ _ _ _ _ _ _ _ _ _ _ _ _ hmk
  have n7 : (kk == 7) = false := by simp; omega
  refine wp_cond_false (congrArg Value.bool n7) ?_
  clear n7
  go_upto_if 59 with fail
  by_cases e8 : kk = 8
  · subst e8
    refine wp_cond_true rfl ?_
    go_upto_if 59 with fail
    refine wp_cond_true rfl ?_
    refine mk21 rfl (by omega) hr1 hr2 hn2 hlt hdo hno hob hcd hco HOM.out HCR.out ?_
    intros
    rename_i hmk
    refine HQ.out _ _ _ _ _ _ _ _ _ _ _ _ _ _ _ _ _ _ _ _ _ _ _ _ _ _ _ _ _ _ _ _ _ _ _ _ _ _ _ _ _ _ _ _ _ _ _ _ _ _ _ _ _ _ _ _ _ _ _ _ _ _ _ _ _ _ _ _ _ _ _ _ _ _ _ _ _ _ _ _ _ _ _ _ _ _ _ _ _ _ _ _ _ _ _ _ _ _ _ _ _ _ _ _ _ _ _ _ _ _ _ _ _ _ _ _ _ _ _ _ _ _ _ _ _ _ _ _ _ _ _ _ _ _ _ _ _ _ _ _ _ _ _ _ _ _ _ _ _ _ _ _ _ _ _ _ _ _ _ _ _ _ _ hmk
  have n8 : (kk == 8) = false := by simp; omega
  refine wp_cond_false (congrArg Value.bool n8) ?_
  clear n8
  go_upto_if 59 with fail
  by_cases e9 : kk = 9
  · subst e9
    refine wp_cond_true rfl ?_
    refine mk21 rfl (by omega) hr1 hr2 hn2 hlt hdo hno hob hcd hco HOM.out HCR.out ?_
    intros
    rename_i hmk
    refine HQ.out _ _ _ _ _ _ _ _ _ _ _ _ _ _ _ _ _ _ _ _ _ _ _ _ _ _ _ _ _ _ _ _ _ _ _ _ _ _ _ _ _ _ _ _ _ _ _ _ _ _ _ _ _ _ _ _ _ _ _ _ _ _ _ _ _ _ _ _ _ _ _ _ _ _ _ _ _ _ _ _ _ _ _ _ _ _ _ _ _ _ _ _ _ _ _ _ _ _ _ _ _ _ _ _ _ _ _ _ _ _ _ _ _ _ _ _ _ _ _ _ _ _ _ _ _ _ _ _ _ _ _ _ _ _ _ _ _ _ _ _ _ _ _ _ _ _ _ _ _ _ _ _ _ _ _ _ _ _ _ _ _ _ _ hmk
  have n9 : (kk == 9) = false := by simp; omega
  refine wp_cond_false (congrArg Value.bool n9) ?_
  clear n9
  go_upto_if 82 with fail
  by_cases e12 : kk = 12
  · subst e12
    refine wp_cond_true rfl ?_
    go_upto_if 82 with fail
    refine wp_cond_true rfl ?_
    refine mk24a rfl hr1 hr2 hn2 hlt hdo hno hob hcd hco HOM.out HCR.out ?_
    intros
    rename_i hmk
    refine HQ.out _ _ _ _ _ _ _ _ _ _ _ _ _ _ _ _ _ _ _ _ _ _ _ _ _ _ _ _ _ _ _ _ _ _ _ _ _ _ _ _ _ _ _ _ _ _ _ _ _ _ _ _ _ _ _ _ _ _ _ _ _ _ _ _ _ _ _ _ _ _ _ _ _ _ _ _ _ _ _ _ _ _ _ _ _ _ _ _ _ _ _ _ _ _ _ _ _ _ _ _ _ _ _ _ _ _ _ _ _ _ _ _ _ _ _ _ _ _ _ _ _ _ _ _ _ _ _ _ _ _ _ _ _ _ _ _ _ _ _ _ _ _ _ _ _ _ _ _ _ _ _ _ _ _ _ _ _ _ _ _ _ _ _ hmk
  have n12 : (kk == 12) = false := by simp; omega
  refine wp_cond_false (congrArg Value.bool n12) ?_
  clear n12
  go_upto_if 82 with fail
  by_cases e13 : kk = 13
  · subst e13
    refine wp_cond_true rfl ?_
    refine mk24b rfl hr1 hr2 hn2 hlt hdo hno hob hcd hco HOM.out HCR.out ?_
    intros
    rename_i hmk
    refine HQ.out _ _ _ _ _ _ _ _ _ _ _ _ _ _ _ _ _ _ _ _ _ _ _ _ _ _ _ _ _ _ _ _ _ _ _ _ _ _ _ _ _ _ _ _ _ _ _ _ _ _ _ _ _ _ _ _ _ _ _ _ _ _ _ _ _ _ _ _ _ _ _ _ _ _ _ _ _ _ _ _ _ _ _ _ _ _ _ _ _ _ _ _ _ _ _ _ _ _ _ _ _ _ _ _ _ _ _ _ _ _ _ _ _ _ _ _ _ _ _ _ _ _ _ _ _ _ _ _ _ _ _ _ _ _ _ _ _ _ _ _ _ _ _ _ _ _ _ _ _ _ _ _ _ _ _ _ _ _ _ _ _ _ _ hmk
  have n13 : (kk == 13) = false := by simp; omega
  refine wp_cond_false (congrArg Value.bool n13) ?_
  clear n13
  go_upto_if 110 with fail
  by_cases e14 : kk = 14
  · subst e14
    refine wp_cond_true rfl ?_
    refine mk30 rfl hr1 hr2 hn2 hlt hdo hno hob hcd hco HOM.out HCR.out ?_
    intros
    rename_i hmk
    refine HQ.out _ _ _ _ _ _ _ _ _ _ _ _ _ _ _ _ _ _ _ _ _ _ _ _ _ _ _ _ _ _ _ _ _ _ _ _ _ _ _ _ _ _ _ _ _ _ _ _ _ _ _ _ _ _ _ _ _ _ _ _ _ _ _ _ _ _ _ _ _ _ _ _ _ _ _ _ _ _ _ _ _ _ _ _ _ _ _ _ _ _ _ _ _ _ _ _ _ _ _ _ _ _ _ _ _ _ _ _ _ _ _ _ _ _ _ _ _ _ _ _ _ _ _ _ _ _ _ _ _ _ _ _ _ _ _ _ _ _ _ _ _ _ _ _ _ _ _ _ _ _ _ _ _ _ _ _ _ _ _ _ _ _ _ hmk
  have n14 : (kk == 14) = false := by simp; omega
  refine wp_cond_false (congrArg Value.bool n14) ?_
  clear n14
  go_upto_if 136 with fail
  by_cases e15 : kk = 15
  · subst e15
    refine wp_cond_true rfl ?_
    refine mk36 rfl hr1 hr2 hn2 hlt hdo hno hob hcd hco HOM.out HCR.out ?_
    intros
    rename_i hmk
    refine HQ.out _ _ _ _ _ _ _ _ _ _ _ _ _ _ _ _ _ _ _ _ _ _ _ _ _ _ _ _ _ _ _ _ _ _ _ _ _ _ _ _ _ _ _ _ _ _ _ _ _ _ _ _ _ _ _ _ _ _ _ _ _ _ _ _ _ _ _ _ _ _ _ _ _ _ _ _ _ _ _ _ _ _ _ _ _ _ _ _ _ _ _ _ _ _ _ _ _ _ _ _ _ _ _ _ _ _ _ _ _ _ _ _ _ _ _ _ _ _ _ _ _ _ _ _ _ _ _ _ _ _ _ _ _ _ _ _ _ _ _ _ _ _ _ _ _ _ _ _ _ _ _ _ _ _ _ _ _ _ _ _ _ _ _ hmk
  have n15 : (kk == 15) = false := by simp; omega
  refine wp_cond_false (congrArg Value.bool n15) ?_
  clear n15
  go_upto_if 158 with fail
  by_cases e16 : kk = 16
  · subst e16
    refine wp_cond_true rfl ?_
    refine mk42 rfl hr1 hr2 hn2 hlt hdo hno hob hcd hco HOM.out HCR.out ?_
    intros
    rename_i hmk
    refine HQ.out _ _ _ _ _ _ _ _ _ _ _ _ _ _ _ _ _ _ _ _ _ _ _ _ _ _ _ _ _ _ _ _ _ _ _ _ _ _ _ _ _ _ _ _ _ _ _ _ _ _ _ _ _ _ _ _ _ _ _ _ _ _ _ _ _ _ _ _ _ _ _ _ _ _ _ _ _ _ _ _ _ _ _ _ _ _ _ _ _ _ _ _ _ _ _ _ _ _ _ _ _ _ _ _ _ _ _ _ _ _ _ _ _ _ _ _ _ _ _ _ _ _ _ _ _ _ _ _ _ _ _ _ _ _ _ _ _ _ _ _ _ _ _ _ _ _ _ _ _ _ _ _ _ _ _ _ _ _ _ _ _ _ _ hmk
  have n16 : (kk == 16) = false := by simp; omega
  refine wp_cond_false (congrArg Value.bool n16) ?_
  clear n16
  go_upto_if 173 with fail
  by_cases e17 : kk = 17
  · subst e17
    refine wp_cond_true rfl ?_
    go_upto_if 173 with fail
    refine wp_cond_true rfl ?_
    refine mk45 rfl (by omega) hr1 hr2 hn2 hlt hdo hno hob hcd hco HOM.out HCR.out ?_
    intros
    rename_i hmk
    refine HQ.out _ _ _ _ _ _ _ _ _ _ _ _ _ _ _ _ _ _ _ _ _ _ _ _ _ _ _ _ _ _ _ _ _ _ _ _ _ _ _ _ _ _ _ _ _ _ _ _ _ _ _ _ _ _ _ _ _ _ _ _ _ _ _ _ _ _ _ _ _ _ _ _ _ _ _ _ _ _ _ _ _ _ _ _ _ _ _ _ _ _ _ _ _ _ _ _ _ _ _ _ _ _ _ _ _ _ _ _ _ _ _ _ _ _ _ _ _ _ _ _ _ _ _ _ _ _ _ _ _ _ _ _ _ _ _ _ _ _ _ _ _ _ _ _ _ _ _ _ _ _ _ _ _ _ _ _ _ _ _ _ _ _ _ hmk
  have n17 : (kk == 17) = false := by simp; omega
  refine wp_cond_false (congrArg Value.bool n17) ?_
  clear n17
  go_upto_if 173 with fail
  by_cases e18 : kk = 18
  · subst e18
    refine wp_cond_true rfl ?_
    refine mk45 rfl (by omega) hr1 hr2 hn2 hlt hdo hno hob hcd hco HOM.out HCR.out ?_
    intros
    rename_i hmk
    refine HQ.out _ _ _ _ _ _ _ _ _ _ _ _ _ _ _ _ _ _ _ _ _ _ _ _ _ _ _ _ _ _ _ _ _ _ _ _ _ _ _ _ _ _ _ _ _ _ _ _ _ _ _ _ _ _ _ _ _ _ _ _ _ _ _ _ _ _ _ _ _ _ _ _ _ _ _ _ _ _ _ _ _ _ _ _ _ _ _ _ _ _ _ _ _ _ _ _ _ _ _ _ _ _ _ _ _ _ _ _ _ _ _ _ _ _ _ _ _ _ _ _ _ _ _ _ _ _ _ _ _ _ _ _ _ _ _ _ _ _ _ _ _ _ _ _ _ _ _ _ _ _ _ _ _ _ _ _ _ _ _ _ _ _ _ hmk
  have n18 : (kk == 18) = false := by simp; omega
  refine wp_cond_false (congrArg Value.bool n18) ?_
  clear n18
  go_upto_if 181 with fail
  obtain rfl : kk = 19 := by omega
  refine wp_cond_true rfl ?_
  refine mk47 rfl hr1 hr2 hn2 hlt hdo hno hob hcd hco HOM.out HCR.out ?_
  intros
  rename_i hmk
  refine HQ.out _ _ _ _ _ _ _ _ _ _ _ _ _ _ _ _ _ _ _ _ _ _ _ _ _ _ _ _ _ _ _ _ _ _ _ _ _ _ _ _ _ _ _ _ _ _ _ _ _ _ _ _ _ _ _ _ _ _ _ _ _ _ _ _ _ _ _ _ _ _ _ _ _ _ _ _ _ _ _ _ _ _ _ _ _ _ _ _ _ _ _ _ _ _ _ _ _ _ _ _ _ _ _ _ _ _ _ _ _ _ _ _ _ _ _ _ _ _ _ _ _ _ _ _ _ _ _ _ _ _ _ _ _ _ _ _ _ _ _ _ _ _ _ _ _ _ _ _ _ _ _ _ _ _ _ _ _ _ _ _ _ _ _ hmk
end Go.Proofs.YtkggmckfdkpldaaDoor
