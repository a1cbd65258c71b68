/-
  The branches of made's Dice.Code, each by itself.
  Conditions: the dice and the operation lie in memory.
-/
import Derived.Test.YtkggmckfdkpldaaDoorFdC
namespace Go.Proofs.YtkggmckfdkpldaaDoor
open Go.RowKit

set_option maxHeartbeats 6400000 in
set_option maxRecDepth 100000 in
theorem mk45 {dd cb ob n k r : Nat} {kk : Int} {xs : List Int} {wn wo : World} {Q : Exit → Act → World → Prop} {s1 s2 s3 s4 s9 s10 s11 s12 s13 s14 s15 s16 s17 s18 s19 s20 s21 s22 s23 s24 s25 s26 s27 s28 s29 s30 s31 s32 s33 s34 s35 s36 s37 s38 s39 s40 s41 s42 s43 s44 s45 s46 s47 s48 s49 s50 s51 s52 s53 s54 s55 s56 s57 s58 s59 s60 s61 s62 s63 s64 s65 s66 s67 s68 s69 s70 s71 s72 s73 s74 s75 s76 s77 s78 s79 s80 s81 s82 s83 s84 s85 s86 s87 s88 s89 s90 s91 s92 s93 s94 s95 s96 s97 s98 s99 s100 s101 s102 s103 s104 s105 s106 s107 s108 s109 s110 s111 s112 s113 s114 s115 s116 s117 s118 s119 s120 s121 s122 s123 s124 s125 s126 s127 s128 s129 s130 s131 s132 s133 s134 s135 s136 s137 s138 s139 s140 s141 s142 s143 s144 s145 s146 s147 s148 s149 s150 s151 s152 s153 s154 s155 s156 s157 s158 s159 s160 s161 s162 s163 s164 s165 s166 s167 s168 s169 s170 s171 s172 s173 s174 s175 s176 s177 s178 s179 s180 s181 s182 s183 s184 s185 s186 s187 s188 s189 s190 s191 s192 s193 s194 s195 s196 s197 s198 s199 s200 s201 s202 s203 s204 s205 s206 s207 s208 : Value} {cd : Code} (hcode : (Tryd.f9.body.map (subC [1, 1, 1, 0, 1, 0, 0, 1, 0, 0, 1, 0, 1, 0, 1, 1, 1, 1, 1, 1, 1, 1, 1, 1, 1, 1, 1, 1, 1, 0])) = some cd)
    (hk1 : 1 ≤ kk ∧ kk ≤ 19) (hr1 : 1 ≤ r) (hr2 : r ≤ 200) (hn2 : n ≤ 14) (hlt : k < n) (hdo : dd < ob) (hno : wn.heap.size ≤ ob) (hob : ob ≤ wn.heap.size) (hcd : cb ≠ dd) (hco : cb < ob) (hom : Om dd ob xs wn wo (iv kk) (iv 0) (iv 0) (iv 0) (.slice none 0 0) (sv [])) (hcr : wo.cell? ⟨cb, 1, none⟩ = some (iv r))
    (hQ : ∀ (x9 x10 x32 x33 x34 x35 x36 x37 x38 x39 x40 x41 x42 x43 x44 x45 x46 x47 x48 x49 x50 x51 x52 x53 x54 x55 x56 x57 x58 x59 x60 x61 x62 x63 x64 x65 x66 x67 x68 x69 x70 x71 x72 x73 x74 x75 x76 x77 x78 x79 x80 x81 x82 x83 x84 x85 x86 x87 x88 x89 x90 x91 x92 x93 x94 x95 x96 x97 x98 x99 x100 x101 x102 x103 x104 x105 x106 x107 x108 x109 x110 x111 x112 x113 x114 x115 x116 x117 x118 x119 x120 x121 x122 x123 x124 x125 x126 x127 x128 x129 x130 x131 x132 x133 x134 x135 x136 x137 x138 x139 x140 x141 x142 x143 x144 x145 x146 x147 x148 x149 x150 x151 x152 x153 x154 x155 x156 x157 x158 x159 x160 x161 x162 x163 x164 x165 x166 x167 x168 x169 x170 x171 x172 x173 x174 x175 x176 x177 x178 x179 x180 x181 x182 x183 x184 x185 x186 x187 x188 x189 x190 x191 : Value) (w' : World), OpMk dd ob xs wn w' → Q .normal ⟨#[.pointer (some ⟨dd, 0, none⟩), s1, s2, s3, s4, .int .i64 (n : Int), .pointer (some ⟨cb, 0, none⟩), .int .i64 (k : Int), .pointer (some ⟨ob, 0, none⟩), x9, x10, s11, s12, s13, s14, s15, s16, s17, s18, s19, s20, s21, s22, s23, s24, s25, s26, s27, s28, s29, s30, s31, x32, x33, x34, x35, x36, x37, x38, x39, x40, x41, x42, x43, x44, x45, x46, x47, x48, x49, x50, x51, x52, x53, x54, x55, x56, x57, x58, x59, x60, x61, x62, x63, x64, x65, x66, x67, x68, x69, x70, x71, x72, x73, x74, x75, x76, x77, x78, x79, x80, x81, x82, x83, x84, x85, x86, x87, x88, x89, x90, x91, x92, x93, x94, x95, x96, x97, x98, x99, x100, x101, x102, x103, x104, x105, x106, x107, x108, x109, x110, x111, x112, x113, x114, x115, x116, x117, x118, x119, x120, x121, x122, x123, x124, x125, x126, x127, x128, x129, x130, x131, x132, x133, x134, x135, x136, x137, x138, x139, x140, x141, x142, x143, x144, x145, x146, x147, x148, x149, x150, x151, x152, x153, x154, x155, x156, x157, x158, x159, x160, x161, x162, x163, x164, x165, x166, x167, x168, x169, x170, x171, x172, x173, x174, x175, x176, x177, x178, x179, x180, x181, x182, x183, x184, x185, x186, x187, x188, x189, x190, x191, s192, s193, s194, s195, s196, s197, s198, s199, s200, s201, s202, s203, s204, s205, s206, s207, s208], []⟩ w') :
    cd.wp Tryd.prog Q ⟨#[.pointer (some ⟨dd, 0, none⟩), s1, s2, s3, s4, .int .i64 (n : Int), .pointer (some ⟨cb, 0, none⟩), .int .i64 (k : Int), .pointer (some ⟨ob, 0, none⟩), s9, s10, s11, s12, s13, s14, s15, s16, s17, s18, s19, s20, s21, s22, s23, s24, s25, s26, s27, s28, s29, s30, s31, s32, s33, s34, s35, s36, s37, s38, s39, s40, s41, s42, s43, s44, s45, s46, s47, s48, s49, s50, s51, s52, s53, s54, s55, s56, s57, s58, s59, s60, s61, s62, s63, s64, s65, s66, s67, s68, s69, s70, s71, s72, s73, s74, s75, s76, s77, s78, s79, s80, s81, s82, s83, s84, s85, s86, s87, s88, s89, s90, s91, s92, s93, s94, s95, s96, s97, s98, s99, s100, s101, s102, s103, s104, s105, s106, s107, s108, s109, s110, s111, s112, s113, s114, s115, s116, s117, s118, s119, s120, s121, s122, s123, s124, s125, s126, s127, s128, s129, s130, s131, s132, s133, s134, s135, s136, s137, s138, s139, s140, s141, s142, s143, s144, s145, s146, s147, s148, s149, s150, s151, s152, s153, s154, s155, s156, s157, s158, s159, s160, s161, s162, s163, s164, s165, s166, s167, s168, s169, s170, s171, s172, s173, s174, s175, s176, s177, s178, s179, s180, s181, s182, s183, s184, s185, s186, s187, s188, s189, s190, s191, s192, s193, s194, s195, s196, s197, s198, s199, s200, s201, s202, s203, s204, s205, s206, s207, s208], []⟩ wo := by
  obtain ⟨i1, hi1, hy0, hy1, hy2⟩ := info_parts infoI
  have hcode2 : some _ = some cd := hcode
  obtain rfl := Option.some.inj hcode2
  clear hcode hcode2
  conv in (subC _ _) => whnf
  have HQ := Lib.hid hQ
  clear hQ
  have HOM := Lib.hid hom
  have HCR := Lib.hid hcr
  clear hom hcr
  have g1 := HCR.out
  go_wp2_with fail
  refine (next_any r dd xs _ (by omega) (by omega) HOM.out.dice).mono ?_
  rintro e w3 ⟨a, ha, rfl, hT, hK⟩
  have HOM3 := Lib.hid (HOM.out.thrown hT hK (by omega))
  have HCR3 := Lib.hid (cr_kp HCR.out hK hcd)
  clear hT hK
  obtain ⟨z0, z1, z2, z3, z4, z5⟩ := HOM3.out.z
  have f1 := HOM3.out.f 1
  have f2 := HOM3.out.f 2
  have f3 := HOM3.out.f 3
  have f4 := HOM3.out.f 4
  have f5 := HOM3.out.f 5
  go_wp2
  refine HQ.out _ _ _ _ _ _ _ _ _ _ _ _ _ _ _ _ _ _ _ _ _ _ _ _ _ _ _ _ _ _ _ _ _ _ _ _ _ _ _ _ _ _ _ _ _ _ _ _ _ _ _ _ _ _ _ _ _ _ _ _ _ _ _ _ _ _ _ _ _ _ _ _ _ _ _ _ _ _ _ _ _ _ _ _ _ _ _ _ _ _ _ _ _ _ _ _ _ _ _ _ _ _ _ _ _ _ _ _ _ _ _ _ _ _ _ _ _ _ _ _ _ _ _ _ _ _ _ _ _ _ _ _ _ _ _ _ _ _ _ _ _ _ _ _ _ _ _ _ _ _ _ _ _ _ _ _ _ _ _ _ _ _ _ ?_
  exact (HOM3.out.set (o := 2) hdo hno rfl).done0 (i64small (by omega) (by omega)) (i64small (by decide) (by decide)) (i64small (by omega) (by omega)) (i64small (by decide) (by decide)) (by simp)
set_option maxHeartbeats 6400000 in
set_option maxRecDepth 100000 in
theorem mk47 {dd cb ob n k r : Nat} {xs : List Int} {wn wo : World} {Q : Exit → Act → World → Prop} {s1 s2 s3 s4 s9 s10 s11 s12 s13 s14 s15 s16 s17 s18 s19 s20 s21 s22 s23 s24 s25 s26 s27 s28 s29 s30 s31 s32 s33 s34 s35 s36 s37 s38 s39 s40 s41 s42 s43 s44 s45 s46 s47 s48 s49 s50 s51 s52 s53 s54 s55 s56 s57 s58 s59 s60 s61 s62 s63 s64 s65 s66 s67 s68 s69 s70 s71 s72 s73 s74 s75 s76 s77 s78 s79 s80 s81 s82 s83 s84 s85 s86 s87 s88 s89 s90 s91 s92 s93 s94 s95 s96 s97 s98 s99 s100 s101 s102 s103 s104 s105 s106 s107 s108 s109 s110 s111 s112 s113 s114 s115 s116 s117 s118 s119 s120 s121 s122 s123 s124 s125 s126 s127 s128 s129 s130 s131 s132 s133 s134 s135 s136 s137 s138 s139 s140 s141 s142 s143 s144 s145 s146 s147 s148 s149 s150 s151 s152 s153 s154 s155 s156 s157 s158 s159 s160 s161 s162 s163 s164 s165 s166 s167 s168 s169 s170 s171 s172 s173 s174 s175 s176 s177 s178 s179 s180 s181 s182 s183 s184 s185 s186 s187 s188 s189 s190 s191 s192 s193 s194 s195 s196 s197 s198 s199 s200 s201 s202 s203 s204 s205 s206 s207 s208 : Value} {cd : Code} (hcode : (Tryd.f9.body.map (subC [1, 1, 1, 0, 1, 0, 0, 1, 0, 0, 1, 0, 1, 0, 1, 1, 1, 1, 1, 1, 1, 1, 1, 1, 1, 1, 1, 1, 1, 1, 1, 0])) = some cd)
    (hr1 : 1 ≤ r) (hr2 : r ≤ 200) (hn2 : n ≤ 14) (hlt : k < n) (hdo : dd < ob) (hno : wn.heap.size ≤ ob) (hob : ob ≤ wn.heap.size) (hcd : cb ≠ dd) (hco : cb < ob) (hom : Om dd ob xs wn wo (iv 19) (iv 0) (iv 0) (iv 0) (.slice none 0 0) (sv [])) (hcr : wo.cell? ⟨cb, 1, none⟩ = some (iv r))
    (hQ : ∀ (x9 x10 x32 x33 x34 x35 x36 x37 x38 x39 x40 x41 x42 x43 x44 x45 x46 x47 x48 x49 x50 x51 x52 x53 x54 x55 x56 x57 x58 x59 x60 x61 x62 x63 x64 x65 x66 x67 x68 x69 x70 x71 x72 x73 x74 x75 x76 x77 x78 x79 x80 x81 x82 x83 x84 x85 x86 x87 x88 x89 x90 x91 x92 x93 x94 x95 x96 x97 x98 x99 x100 x101 x102 x103 x104 x105 x106 x107 x108 x109 x110 x111 x112 x113 x114 x115 x116 x117 x118 x119 x120 x121 x122 x123 x124 x125 x126 x127 x128 x129 x130 x131 x132 x133 x134 x135 x136 x137 x138 x139 x140 x141 x142 x143 x144 x145 x146 x147 x148 x149 x150 x151 x152 x153 x154 x155 x156 x157 x158 x159 x160 x161 x162 x163 x164 x165 x166 x167 x168 x169 x170 x171 x172 x173 x174 x175 x176 x177 x178 x179 x180 x181 x182 x183 x184 x185 x186 x187 x188 x189 x190 x191 : Value) (w' : World), OpMk dd ob xs wn w' → Q .normal ⟨#[.pointer (some ⟨dd, 0, none⟩), s1, s2, s3, s4, .int .i64 (n : Int), .pointer (some ⟨cb, 0, none⟩), .int .i64 (k : Int), .pointer (some ⟨ob, 0, none⟩), x9, x10, s11, s12, s13, s14, s15, s16, s17, s18, s19, s20, s21, s22, s23, s24, s25, s26, s27, s28, s29, s30, s31, x32, x33, x34, x35, x36, x37, x38, x39, x40, x41, x42, x43, x44, x45, x46, x47, x48, x49, x50, x51, x52, x53, x54, x55, x56, x57, x58, x59, x60, x61, x62, x63, x64, x65, x66, x67, x68, x69, x70, x71, x72, x73, x74, x75, x76, x77, x78, x79, x80, x81, x82, x83, x84, x85, x86, x87, x88, x89, x90, x91, x92, x93, x94, x95, x96, x97, x98, x99, x100, x101, x102, x103, x104, x105, x106, x107, x108, x109, x110, x111, x112, x113, x114, x115, x116, x117, x118, x119, x120, x121, x122, x123, x124, x125, x126, x127, x128, x129, x130, x131, x132, x133, x134, x135, x136, x137, x138, x139, x140, x141, x142, x143, x144, x145, x146, x147, x148, x149, x150, x151, x152, x153, x154, x155, x156, x157, x158, x159, x160, x161, x162, x163, x164, x165, x166, x167, x168, x169, x170, x171, x172, x173, x174, x175, x176, x177, x178, x179, x180, x181, x182, x183, x184, x185, x186, x187, x188, x189, x190, x191, s192, s193, s194, s195, s196, s197, s198, s199, s200, s201, s202, s203, s204, s205, s206, s207, s208], []⟩ w') :
    cd.wp Tryd.prog Q ⟨#[.pointer (some ⟨dd, 0, none⟩), s1, s2, s3, s4, .int .i64 (n : Int), .pointer (some ⟨cb, 0, none⟩), .int .i64 (k : Int), .pointer (some ⟨ob, 0, none⟩), s9, s10, s11, s12, s13, s14, s15, s16, s17, s18, s19, s20, s21, s22, s23, s24, s25, s26, s27, s28, s29, s30, s31, s32, s33, s34, s35, s36, s37, s38, s39, s40, s41, s42, s43, s44, s45, s46, s47, s48, s49, s50, s51, s52, s53, s54, s55, s56, s57, s58, s59, s60, s61, s62, s63, s64, s65, s66, s67, s68, s69, s70, s71, s72, s73, s74, s75, s76, s77, s78, s79, s80, s81, s82, s83, s84, s85, s86, s87, s88, s89, s90, s91, s92, s93, s94, s95, s96, s97, s98, s99, s100, s101, s102, s103, s104, s105, s106, s107, s108, s109, s110, s111, s112, s113, s114, s115, s116, s117, s118, s119, s120, s121, s122, s123, s124, s125, s126, s127, s128, s129, s130, s131, s132, s133, s134, s135, s136, s137, s138, s139, s140, s141, s142, s143, s144, s145, s146, s147, s148, s149, s150, s151, s152, s153, s154, s155, s156, s157, s158, s159, s160, s161, s162, s163, s164, s165, s166, s167, s168, s169, s170, s171, s172, s173, s174, s175, s176, s177, s178, s179, s180, s181, s182, s183, s184, s185, s186, s187, s188, s189, s190, s191, s192, s193, s194, s195, s196, s197, s198, s199, s200, s201, s202, s203, s204, s205, s206, s207, s208], []⟩ wo := by
  obtain ⟨i1, hi1, hy0, hy1, hy2⟩ := info_parts infoI
  have hcode2 : some _ = some cd := hcode
  obtain rfl := Option.some.inj hcode2
  clear hcode hcode2
  conv in (subC _ _) => whnf
  have HQ := Lib.hid hQ
  clear hQ
  have HOM := Lib.hid hom
  have HCR := Lib.hid hcr
  clear hom hcr
  have g1 := HCR.out
  go_wp2_with fail
  refine (next_any r dd xs _ (by omega) (by omega) HOM.out.dice).mono ?_
  rintro e w3 ⟨a, ha, rfl, hT, hK⟩
  have HOM3 := Lib.hid (HOM.out.thrown hT hK (by omega))
  have HCR3 := Lib.hid (cr_kp HCR.out hK hcd)
  clear hT hK
  have hdl3 := HOM3.out.dice.lt
  have HOMC := Lib.hid (HOM3.out.below ((Below.refl _ _).alloc (Nat.le_refl _) (.cells #[sv [99], sv [107]] 9)))
  have HROW := Lib.hid (row_lit w3 #[sv [99], sv [107]] 9 [[99], [107]] rfl dd hdl3)
  go_wp2_with fail
  refine (of_any [[99], [107]] _ 2 dd xs _ (by decide) (by decide) HOMC.out.dice HROW.out).mono ?_
  rintro e w4 ⟨sx, hsx, rfl, hT, hK⟩
  have HOM4 := Lib.hid (HOMC.out.thrown hT hK (by omega))
  have hsl : sx.length ≤ 1 := by
    simp only [List.mem_cons, List.not_mem_nil, or_false] at hsx
    rcases hsx with rfl | rfl <;> decide
  clear hT hK hsx HOMC HROW
  obtain ⟨z0, z1, z2, z3, z4, z5⟩ := HOM4.out.z
  have f1 := HOM4.out.f 1
  have f2 := HOM4.out.f 2
  have f3 := HOM4.out.f 3
  have f4 := HOM4.out.f 4
  have f5 := HOM4.out.f 5
  go_wp2
  refine HQ.out _ _ _ _ _ _ _ _ _ _ _ _ _ _ _ _ _ _ _ _ _ _ _ _ _ _ _ _ _ _ _ _ _ _ _ _ _ _ _ _ _ _ _ _ _ _ _ _ _ _ _ _ _ _ _ _ _ _ _ _ _ _ _ _ _ _ _ _ _ _ _ _ _ _ _ _ _ _ _ _ _ _ _ _ _ _ _ _ _ _ _ _ _ _ _ _ _ _ _ _ _ _ _ _ _ _ _ _ _ _ _ _ _ _ _ _ _ _ _ _ _ _ _ _ _ _ _ _ _ _ _ _ _ _ _ _ _ _ _ _ _ _ _ _ _ _ _ _ _ _ _ _ _ _ _ _ _ _ _ _ _ _ _ ?_
  exact ((HOM4.out.set (o := 1) hdo hno rfl).set (o := 5) hdo hno rfl).done0 (i64small (by decide) (by decide)) (i64small (by omega) (by omega)) (i64small (by decide) (by decide)) (i64small (by decide) (by decide)) hsl
set_option maxHeartbeats 6400000 in
set_option maxRecDepth 100000 in
theorem mk24a {dd cb ob n k r : Nat} {xs : List Int} {wn wo : World} {Q : Exit → Act → World → Prop} {s1 s2 s3 s4 s9 s10 s11 s12 s13 s14 s15 s16 s17 s18 s19 s20 s21 s22 s23 s24 s25 s26 s27 s28 s29 s30 s31 s32 s33 s34 s35 s36 s37 s38 s39 s40 s41 s42 s43 s44 s45 s46 s47 s48 s49 s50 s51 s52 s53 s54 s55 s56 s57 s58 s59 s60 s61 s62 s63 s64 s65 s66 s67 s68 s69 s70 s71 s72 s73 s74 s75 s76 s77 s78 s79 s80 s81 s82 s83 s84 s85 s86 s87 s88 s89 s90 s91 s92 s93 s94 s95 s96 s97 s98 s99 s100 s101 s102 s103 s104 s105 s106 s107 s108 s109 s110 s111 s112 s113 s114 s115 s116 s117 s118 s119 s120 s121 s122 s123 s124 s125 s126 s127 s128 s129 s130 s131 s132 s133 s134 s135 s136 s137 s138 s139 s140 s141 s142 s143 s144 s145 s146 s147 s148 s149 s150 s151 s152 s153 s154 s155 s156 s157 s158 s159 s160 s161 s162 s163 s164 s165 s166 s167 s168 s169 s170 s171 s172 s173 s174 s175 s176 s177 s178 s179 s180 s181 s182 s183 s184 s185 s186 s187 s188 s189 s190 s191 s192 s193 s194 s195 s196 s197 s198 s199 s200 s201 s202 s203 s204 s205 s206 s207 s208 : Value} {cd : Code} (hcode : (Tryd.f9.body.map (subC [1, 1, 1, 0, 1, 0, 0, 1, 0, 0, 1, 0, 1, 0, 1, 1, 1, 1, 1, 1, 1, 0])) = some cd)
    (hr1 : 1 ≤ r) (hr2 : r ≤ 200) (hn2 : n ≤ 14) (hlt : k < n) (hdo : dd < ob) (hno : wn.heap.size ≤ ob) (hob : ob ≤ wn.heap.size) (hcd : cb ≠ dd) (hco : cb < ob) (hom : Om dd ob xs wn wo (iv 12) (iv 0) (iv 0) (iv 0) (.slice none 0 0) (sv [])) (hcr : wo.cell? ⟨cb, 1, none⟩ = some (iv r))
    (hQ : ∀ (x9 x10 x32 x33 x34 x35 x36 x37 x38 x39 x40 x41 x42 x43 x44 x45 x46 x47 x48 x49 x50 x51 x52 x53 x54 x55 x56 x57 x58 x59 x60 x61 x62 x63 x64 x65 x66 x67 x68 x69 x70 x71 x72 x73 x74 x75 x76 x77 x78 x79 x80 x81 x82 x83 x84 x85 x86 x87 x88 x89 x90 x91 x92 x93 x94 x95 x96 x97 x98 x99 x100 x101 x102 x103 x104 x105 x106 x107 x108 x109 x110 x111 x112 x113 x114 x115 x116 x117 x118 x119 x120 x121 x122 x123 x124 x125 x126 x127 x128 x129 x130 x131 x132 x133 x134 x135 x136 x137 x138 x139 x140 x141 x142 x143 x144 x145 x146 x147 x148 x149 x150 x151 x152 x153 x154 x155 x156 x157 x158 x159 x160 x161 x162 x163 x164 x165 x166 x167 x168 x169 x170 x171 x172 x173 x174 x175 x176 x177 x178 x179 x180 x181 x182 x183 x184 x185 x186 x187 x188 x189 x190 x191 : Value) (w' : World), OpMk dd ob xs wn w' → Q .normal ⟨#[.pointer (some ⟨dd, 0, none⟩), s1, s2, s3, s4, .int .i64 (n : Int), .pointer (some ⟨cb, 0, none⟩), .int .i64 (k : Int), .pointer (some ⟨ob, 0, none⟩), x9, x10, s11, s12, s13, s14, s15, s16, s17, s18, s19, s20, s21, s22, s23, s24, s25, s26, s27, s28, s29, s30, s31, x32, x33, x34, x35, x36, x37, x38, x39, x40, x41, x42, x43, x44, x45, x46, x47, x48, x49, x50, x51, x52, x53, x54, x55, x56, x57, x58, x59, x60, x61, x62, x63, x64, x65, x66, x67, x68, x69, x70, x71, x72, x73, x74, x75, x76, x77, x78, x79, x80, x81, x82, x83, x84, x85, x86, x87, x88, x89, x90, x91, x92, x93, x94, x95, x96, x97, x98, x99, x100, x101, x102, x103, x104, x105, x106, x107, x108, x109, x110, x111, x112, x113, x114, x115, x116, x117, x118, x119, x120, x121, x122, x123, x124, x125, x126, x127, x128, x129, x130, x131, x132, x133, x134, x135, x136, x137, x138, x139, x140, x141, x142, x143, x144, x145, x146, x147, x148, x149, x150, x151, x152, x153, x154, x155, x156, x157, x158, x159, x160, x161, x162, x163, x164, x165, x166, x167, x168, x169, x170, x171, x172, x173, x174, x175, x176, x177, x178, x179, x180, x181, x182, x183, x184, x185, x186, x187, x188, x189, x190, x191, s192, s193, s194, s195, s196, s197, s198, s199, s200, s201, s202, s203, s204, s205, s206, s207, s208], []⟩ w') :
    cd.wp Tryd.prog Q ⟨#[.pointer (some ⟨dd, 0, none⟩), s1, s2, s3, s4, .int .i64 (n : Int), .pointer (some ⟨cb, 0, none⟩), .int .i64 (k : Int), .pointer (some ⟨ob, 0, none⟩), s9, s10, s11, s12, s13, s14, s15, s16, s17, s18, s19, s20, s21, s22, s23, s24, s25, s26, s27, s28, s29, s30, s31, s32, s33, s34, s35, s36, s37, s38, s39, s40, s41, s42, s43, s44, s45, s46, s47, s48, s49, s50, s51, s52, s53, s54, s55, s56, s57, s58, s59, s60, s61, s62, s63, s64, s65, s66, s67, s68, s69, s70, s71, s72, s73, s74, s75, s76, s77, s78, s79, s80, s81, s82, s83, s84, s85, s86, s87, s88, s89, s90, s91, s92, s93, s94, s95, s96, s97, s98, s99, s100, s101, s102, s103, s104, s105, s106, s107, s108, s109, s110, s111, s112, s113, s114, s115, s116, s117, s118, s119, s120, s121, s122, s123, s124, s125, s126, s127, s128, s129, s130, s131, s132, s133, s134, s135, s136, s137, s138, s139, s140, s141, s142, s143, s144, s145, s146, s147, s148, s149, s150, s151, s152, s153, s154, s155, s156, s157, s158, s159, s160, s161, s162, s163, s164, s165, s166, s167, s168, s169, s170, s171, s172, s173, s174, s175, s176, s177, s178, s179, s180, s181, s182, s183, s184, s185, s186, s187, s188, s189, s190, s191, s192, s193, s194, s195, s196, s197, s198, s199, s200, s201, s202, s203, s204, s205, s206, s207, s208], []⟩ wo := by
  obtain ⟨i1, hi1, hy0, hy1, hy2⟩ := info_parts infoI
  have hcode2 : some _ = some cd := hcode
  obtain rfl := Option.some.inj hcode2
  clear hcode hcode2
  conv in (subC _ _) => whnf
  have HQ := Lib.hid hQ
  clear hQ
  have HOM := Lib.hid hom
  have HCR := Lib.hid hcr
  clear hom hcr
  have hnk : ((n : Int) - (k : Int)) = ((n - k : Nat) : Int) := by omega
  go_wp2_with fail
  try rw [hnk]
  refine (next_any (n - k) dd xs _ (by omega) (by omega) HOM.out.dice).mono ?_
  rintro e w3 ⟨jj, hjj, rfl, hT, hK⟩
  have HOM3 := Lib.hid (HOM.out.thrown hT hK (by omega))
  have HCR3 := Lib.hid (cr_kp HCR.out hK hcd)
  clear hT hK
  clear hnk
  obtain ⟨z0, z1, z2, z3, z4, z5⟩ := HOM3.out.z
  have f1 := HOM3.out.f 1
  have f2 := HOM3.out.f 2
  have f3 := HOM3.out.f 3
  have f4 := HOM3.out.f 4
  have f5 := HOM3.out.f 5
  have HOM4 := Lib.hid ((HOM3.out.set (o := 2) (x := iv 0) hdo hno rfl).set (o := 3) (x := iv ((k : Int) + 1 + jj)) hdo hno rfl)
  go_wp2_with fail
  refine (one_any 6 dd xs _ (by decide) (by decide) HOM4.out.dice).mono ?_
  rintro e w6 ⟨bb, rfl, hT, hK⟩
  have HOM6 := Lib.hid (HOM4.out.thrown hT hK (by omega))
  clear hT hK
  cases bb with
  | false =>
    go_wp2
    refine HQ.out _ _ _ _ _ _ _ _ _ _ _ _ _ _ _ _ _ _ _ _ _ _ _ _ _ _ _ _ _ _ _ _ _ _ _ _ _ _ _ _ _ _ _ _ _ _ _ _ _ _ _ _ _ _ _ _ _ _ _ _ _ _ _ _ _ _ _ _ _ _ _ _ _ _ _ _ _ _ _ _ _ _ _ _ _ _ _ _ _ _ _ _ _ _ _ _ _ _ _ _ _ _ _ _ _ _ _ _ _ _ _ _ _ _ _ _ _ _ _ _ _ _ _ _ _ _ _ _ _ _ _ _ _ _ _ _ _ _ _ _ _ _ _ _ _ _ _ _ _ _ _ _ _ _ _ _ _ _ _ _ _ _ _ ?_
    exact HOM6.out.done0 (i64small (by decide) (by decide)) (i64small (by decide) (by decide)) (i64small (by decide) (by decide)) (i64small (by omega) (by omega)) (by simp)
  | true =>
    go_wp2_with fail
    have hn1e : ((n : Int) + 1) = ((n + 1 : Nat) : Int) := by omega
    rw [hn1e]
    refine (next_any (n + 1) dd xs _ (by omega) (by omega) HOM6.out.dice).mono ?_
    rintro e w7 ⟨c2, hc2, rfl, hT, hK⟩
    have HOM7 := Lib.hid (HOM6.out.thrown hT hK (by omega))
    clear hT hK hn1e
    obtain ⟨z0, z1, z2, z3, z4, z5⟩ := HOM7.out.z
    have f1 := HOM7.out.f 1
    have f2 := HOM7.out.f 2
    have f3 := HOM7.out.f 3
    have f4 := HOM7.out.f 4
    have f5 := HOM7.out.f 5
    go_wp2
    refine HQ.out _ _ _ _ _ _ _ _ _ _ _ _ _ _ _ _ _ _ _ _ _ _ _ _ _ _ _ _ _ _ _ _ _ _ _ _ _ _ _ _ _ _ _ _ _ _ _ _ _ _ _ _ _ _ _ _ _ _ _ _ _ _ _ _ _ _ _ _ _ _ _ _ _ _ _ _ _ _ _ _ _ _ _ _ _ _ _ _ _ _ _ _ _ _ _ _ _ _ _ _ _ _ _ _ _ _ _ _ _ _ _ _ _ _ _ _ _ _ _ _ _ _ _ _ _ _ _ _ _ _ _ _ _ _ _ _ _ _ _ _ _ _ _ _ _ _ _ _ _ _ _ _ _ _ _ _ _ _ _ _ _ _ _ ?_
    exact (HOM7.out.set (o := 3) hdo hno rfl).done0 (i64small (by decide) (by decide)) (i64small (by decide) (by decide)) (i64small (by decide) (by decide)) (i64small (by omega) (by omega)) (by simp)
set_option maxHeartbeats 6400000 in
set_option maxRecDepth 100000 in
theorem mk24b {dd cb ob n k r : Nat} {xs : List Int} {wn wo : World} {Q : Exit → Act → World → Prop} {s1 s2 s3 s4 s9 s10 s11 s12 s13 s14 s15 s16 s17 s18 s19 s20 s21 s22 s23 s24 s25 s26 s27 s28 s29 s30 s31 s32 s33 s34 s35 s36 s37 s38 s39 s40 s41 s42 s43 s44 s45 s46 s47 s48 s49 s50 s51 s52 s53 s54 s55 s56 s57 s58 s59 s60 s61 s62 s63 s64 s65 s66 s67 s68 s69 s70 s71 s72 s73 s74 s75 s76 s77 s78 s79 s80 s81 s82 s83 s84 s85 s86 s87 s88 s89 s90 s91 s92 s93 s94 s95 s96 s97 s98 s99 s100 s101 s102 s103 s104 s105 s106 s107 s108 s109 s110 s111 s112 s113 s114 s115 s116 s117 s118 s119 s120 s121 s122 s123 s124 s125 s126 s127 s128 s129 s130 s131 s132 s133 s134 s135 s136 s137 s138 s139 s140 s141 s142 s143 s144 s145 s146 s147 s148 s149 s150 s151 s152 s153 s154 s155 s156 s157 s158 s159 s160 s161 s162 s163 s164 s165 s166 s167 s168 s169 s170 s171 s172 s173 s174 s175 s176 s177 s178 s179 s180 s181 s182 s183 s184 s185 s186 s187 s188 s189 s190 s191 s192 s193 s194 s195 s196 s197 s198 s199 s200 s201 s202 s203 s204 s205 s206 s207 s208 : Value} {cd : Code} (hcode : (Tryd.f9.body.map (subC [1, 1, 1, 0, 1, 0, 0, 1, 0, 0, 1, 0, 1, 0, 1, 1, 1, 1, 1, 1, 1, 0])) = some cd)
    (hr1 : 1 ≤ r) (hr2 : r ≤ 200) (hn2 : n ≤ 14) (hlt : k < n) (hdo : dd < ob) (hno : wn.heap.size ≤ ob) (hob : ob ≤ wn.heap.size) (hcd : cb ≠ dd) (hco : cb < ob) (hom : Om dd ob xs wn wo (iv 13) (iv 0) (iv 0) (iv 0) (.slice none 0 0) (sv [])) (hcr : wo.cell? ⟨cb, 1, none⟩ = some (iv r))
    (hQ : ∀ (x9 x10 x32 x33 x34 x35 x36 x37 x38 x39 x40 x41 x42 x43 x44 x45 x46 x47 x48 x49 x50 x51 x52 x53 x54 x55 x56 x57 x58 x59 x60 x61 x62 x63 x64 x65 x66 x67 x68 x69 x70 x71 x72 x73 x74 x75 x76 x77 x78 x79 x80 x81 x82 x83 x84 x85 x86 x87 x88 x89 x90 x91 x92 x93 x94 x95 x96 x97 x98 x99 x100 x101 x102 x103 x104 x105 x106 x107 x108 x109 x110 x111 x112 x113 x114 x115 x116 x117 x118 x119 x120 x121 x122 x123 x124 x125 x126 x127 x128 x129 x130 x131 x132 x133 x134 x135 x136 x137 x138 x139 x140 x141 x142 x143 x144 x145 x146 x147 x148 x149 x150 x151 x152 x153 x154 x155 x156 x157 x158 x159 x160 x161 x162 x163 x164 x165 x166 x167 x168 x169 x170 x171 x172 x173 x174 x175 x176 x177 x178 x179 x180 x181 x182 x183 x184 x185 x186 x187 x188 x189 x190 x191 : Value) (w' : World), OpMk dd ob xs wn w' → Q .normal ⟨#[.pointer (some ⟨dd, 0, none⟩), s1, s2, s3, s4, .int .i64 (n : Int), .pointer (some ⟨cb, 0, none⟩), .int .i64 (k : Int), .pointer (some ⟨ob, 0, none⟩), x9, x10, s11, s12, s13, s14, s15, s16, s17, s18, s19, s20, s21, s22, s23, s24, s25, s26, s27, s28, s29, s30, s31, x32, x33, x34, x35, x36, x37, x38, x39, x40, x41, x42, x43, x44, x45, x46, x47, x48, x49, x50, x51, x52, x53, x54, x55, x56, x57, x58, x59, x60, x61, x62, x63, x64, x65, x66, x67, x68, x69, x70, x71, x72, x73, x74, x75, x76, x77, x78, x79, x80, x81, x82, x83, x84, x85, x86, x87, x88, x89, x90, x91, x92, x93, x94, x95, x96, x97, x98, x99, x100, x101, x102, x103, x104, x105, x106, x107, x108, x109, x110, x111, x112, x113, x114, x115, x116, x117, x118, x119, x120, x121, x122, x123, x124, x125, x126, x127, x128, x129, x130, x131, x132, x133, x134, x135, x136, x137, x138, x139, x140, x141, x142, x143, x144, x145, x146, x147, x148, x149, x150, x151, x152, x153, x154, x155, x156, x157, x158, x159, x160, x161, x162, x163, x164, x165, x166, x167, x168, x169, x170, x171, x172, x173, x174, x175, x176, x177, x178, x179, x180, x181, x182, x183, x184, x185, x186, x187, x188, x189, x190, x191, s192, s193, s194, s195, s196, s197, s198, s199, s200, s201, s202, s203, s204, s205, s206, s207, s208], []⟩ w') :
    cd.wp Tryd.prog Q ⟨#[.pointer (some ⟨dd, 0, none⟩), s1, s2, s3, s4, .int .i64 (n : Int), .pointer (some ⟨cb, 0, none⟩), .int .i64 (k : Int), .pointer (some ⟨ob, 0, none⟩), s9, s10, s11, s12, s13, s14, s15, s16, s17, s18, s19, s20, s21, s22, s23, s24, s25, s26, s27, s28, s29, s30, s31, s32, s33, s34, s35, s36, s37, s38, s39, s40, s41, s42, s43, s44, s45, s46, s47, s48, s49, s50, s51, s52, s53, s54, s55, s56, s57, s58, s59, s60, s61, s62, s63, s64, s65, s66, s67, s68, s69, s70, s71, s72, s73, s74, s75, s76, s77, s78, s79, s80, s81, s82, s83, s84, s85, s86, s87, s88, s89, s90, s91, s92, s93, s94, s95, s96, s97, s98, s99, s100, s101, s102, s103, s104, s105, s106, s107, s108, s109, s110, s111, s112, s113, s114, s115, s116, s117, s118, s119, s120, s121, s122, s123, s124, s125, s126, s127, s128, s129, s130, s131, s132, s133, s134, s135, s136, s137, s138, s139, s140, s141, s142, s143, s144, s145, s146, s147, s148, s149, s150, s151, s152, s153, s154, s155, s156, s157, s158, s159, s160, s161, s162, s163, s164, s165, s166, s167, s168, s169, s170, s171, s172, s173, s174, s175, s176, s177, s178, s179, s180, s181, s182, s183, s184, s185, s186, s187, s188, s189, s190, s191, s192, s193, s194, s195, s196, s197, s198, s199, s200, s201, s202, s203, s204, s205, s206, s207, s208], []⟩ wo := by
  obtain ⟨i1, hi1, hy0, hy1, hy2⟩ := info_parts infoI
  have hcode2 : some _ = some cd := hcode
  obtain rfl := Option.some.inj hcode2
  clear hcode hcode2
  conv in (subC _ _) => whnf
  have HQ := Lib.hid hQ
  clear hQ
  have HOM := Lib.hid hom
  have HCR := Lib.hid hcr
  clear hom hcr
  have hnk : ((n : Int) - (k : Int)) = ((n - k : Nat) : Int) := by omega
  go_wp2_with fail
  try rw [hnk]
  refine (next_any (n - k) dd xs _ (by omega) (by omega) HOM.out.dice).mono ?_
  rintro e w3 ⟨jj, hjj, rfl, hT, hK⟩
  have HOM3 := Lib.hid (HOM.out.thrown hT hK (by omega))
  have HCR3 := Lib.hid (cr_kp HCR.out hK hcd)
  clear hT hK
  clear hnk
  obtain ⟨z0, z1, z2, z3, z4, z5⟩ := HOM3.out.z
  have f1 := HOM3.out.f 1
  have f2 := HOM3.out.f 2
  have f3 := HOM3.out.f 3
  have f4 := HOM3.out.f 4
  have f5 := HOM3.out.f 5
  have HOM4 := Lib.hid ((HOM3.out.set (o := 2) (x := iv 0) hdo hno rfl).set (o := 3) (x := iv ((k : Int) + 1 + jj)) hdo hno rfl)
  have g1 := HCR3.out
  have HCR4 : Hid (((w3.setCell ⟨ob, 2, none⟩ (iv 0)).setCell ⟨ob, 3, none⟩ (iv ((k : Int) + 1 + jj))).cell? ⟨cb, 1, none⟩ = some (iv r)) := Lib.hid (by
    have hcb : cb ≠ ob := by omega
    exact ((keptSet2 w3 ob 2 3 (iv 0) (iv ((k : Int) + 1 + jj))).kept (S := fun y => y = cb) (fun b hb => by subst hb; exact ⟨block_lt_of_cell g1, hcb⟩) ⟨cb, 1, none⟩ rfl).trans g1)
  go_wp2_with fail
  refine (next_any r dd xs _ (by omega) (by omega) HOM4.out.dice).mono ?_
  rintro e w4 ⟨b, hb, rfl, hT, hK⟩
  have HOM5 := Lib.hid (HOM4.out.thrown hT hK (by omega))
  have HCR5 := Lib.hid (cr_kp HCR4.out hK hcd)
  clear hT hK
  clear z0 z1 z2 z3 z4 z5 f1 f2 f3 f4 f5 g1
  obtain ⟨z0, z1, z2, z3, z4, z5⟩ := HOM5.out.z
  have f1 := HOM5.out.f 1
  have f2 := HOM5.out.f 2
  have f3 := HOM5.out.f 3
  have f4 := HOM5.out.f 4
  have f5 := HOM5.out.f 5
  have HOM8 := Lib.hid (HOM5.out.set (o := 2) (x := iv b) hdo hno rfl)
  go_wp2_with fail
  refine (one_any 6 dd xs _ (by decide) (by decide) HOM8.out.dice).mono ?_
  rintro e w6 ⟨bb, rfl, hT, hK⟩
  have HOM6 := Lib.hid (HOM8.out.thrown hT hK (by omega))
  clear hT hK
  cases bb with
  | false =>
    go_wp2
    refine HQ.out _ _ _ _ _ _ _ _ _ _ _ _ _ _ _ _ _ _ _ _ _ _ _ _ _ _ _ _ _ _ _ _ _ _ _ _ _ _ _ _ _ _ _ _ _ _ _ _ _ _ _ _ _ _ _ _ _ _ _ _ _ _ _ _ _ _ _ _ _ _ _ _ _ _ _ _ _ _ _ _ _ _ _ _ _ _ _ _ _ _ _ _ _ _ _ _ _ _ _ _ _ _ _ _ _ _ _ _ _ _ _ _ _ _ _ _ _ _ _ _ _ _ _ _ _ _ _ _ _ _ _ _ _ _ _ _ _ _ _ _ _ _ _ _ _ _ _ _ _ _ _ _ _ _ _ _ _ _ _ _ _ _ _ ?_
    exact HOM6.out.done0 (i64small (by decide) (by decide)) (i64small (by decide) (by decide)) (i64small (by omega) (by omega)) (i64small (by omega) (by omega)) (by simp)
  | true =>
    go_wp2_with fail
    have hn1e : ((n : Int) + 1) = ((n + 1 : Nat) : Int) := by omega
    rw [hn1e]
    refine (next_any (n + 1) dd xs _ (by omega) (by omega) HOM6.out.dice).mono ?_
    rintro e w7 ⟨c2, hc2, rfl, hT, hK⟩
    have HOM7 := Lib.hid (HOM6.out.thrown hT hK (by omega))
    clear hT hK hn1e
    obtain ⟨z0, z1, z2, z3, z4, z5⟩ := HOM7.out.z
    have f1 := HOM7.out.f 1
    have f2 := HOM7.out.f 2
    have f3 := HOM7.out.f 3
    have f4 := HOM7.out.f 4
    have f5 := HOM7.out.f 5
    go_wp2
    refine HQ.out _ _ _ _ _ _ _ _ _ _ _ _ _ _ _ _ _ _ _ _ _ _ _ _ _ _ _ _ _ _ _ _ _ _ _ _ _ _ _ _ _ _ _ _ _ _ _ _ _ _ _ _ _ _ _ _ _ _ _ _ _ _ _ _ _ _ _ _ _ _ _ _ _ _ _ _ _ _ _ _ _ _ _ _ _ _ _ _ _ _ _ _ _ _ _ _ _ _ _ _ _ _ _ _ _ _ _ _ _ _ _ _ _ _ _ _ _ _ _ _ _ _ _ _ _ _ _ _ _ _ _ _ _ _ _ _ _ _ _ _ _ _ _ _ _ _ _ _ _ _ _ _ _ _ _ _ _ _ _ _ _ _ _ ?_
    exact (HOM7.out.set (o := 3) hdo hno rfl).done0 (i64small (by decide) (by decide)) (i64small (by decide) (by decide)) (i64small (by omega) (by omega)) (i64small (by omega) (by omega)) (by simp)
end Go.Proofs.YtkggmckfdkpldaaDoor
