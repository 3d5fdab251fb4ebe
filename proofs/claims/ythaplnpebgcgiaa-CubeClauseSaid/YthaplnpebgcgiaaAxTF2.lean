/- MADE BY A PROGRAM (genax.py): the functions as AX has them. -/
import Derived.Test.YthaplnpebgcgiaaAxTF1
namespace Go.Ax.Try
open Go Go.Ax
open Go.Proofs.Try (prog)
set_option maxRecDepth 100000
def r64_0 : List GI := [⟨640000, (some k4), none, .mv (.c (.i .i64 (.ofNat 0)))⟩]
def c64_1 : AC := .reg r64_0
def r64_2 : List GI := [⟨640001, (some k6), none, .mv (.t k0)⟩,
    ⟨640002, (some k7), none, .mv (.t k0)⟩,
    ⟨640003, (some k8), none, .nilc (.t k7)⟩,
    ⟨640004, (some k9), none, .fa 1 (.t k8)⟩,
    ⟨640005, (some k10), none, .load none (.t k9)⟩,
    ⟨640006, (some k11), none, .mv (.t k1)⟩,
    ⟨640007, (some k12), none, .bsl 24 1 1 [.nils] [(0, 1, (.t k11))]⟩,
    ⟨640008, (some k13), none, .app 24 1 (.t k10) (.t k12)⟩,
    ⟨640009, (some k14), none, .nilc (.t k6)⟩,
    ⟨640010, (some k15), none, .fa 1 (.t k14)⟩,
    ⟨640011, none, none, .store 1 (.t k15) (.t k13)⟩]
def c64_3 : AC := .reg r64_2
def r64_4 : List GI := [⟨640012, (some k16), none, .mv (.t k0)⟩,
    ⟨640013, (some k17), none, .nilc (.t k16)⟩,
    ⟨640014, (some k18), none, .fa 1 (.t k17)⟩,
    ⟨640015, (some k19), none, .load none (.t k18)⟩,
    ⟨640016, (some k20), none, .len 0 (.t k19)⟩,
    ⟨640017, (some k21), none, .bin .sub 0 (.t k20) (.c (.i .i64 (.ofNat 1)))⟩,
    ⟨640018, (some k5), none, .mv (.t k21)⟩]
def c64_5 : AC := .reg r64_4
def r64_6 : List GI := [⟨640019, (some k22), none, .mv (.t k0)⟩,
    ⟨640020, (some k23), none, .nilc (.t k22)⟩,
    ⟨640021, (some k24), none, .fa 2 (.t k23)⟩,
    ⟨640022, (some k25), none, .load none (.t k24)⟩,
    ⟨640023, (some k26), none, .mv (.t k1)⟩,
    ⟨640024, (some k27), none, .ia 1 none (.t k26) (.c (.i .i64 (.ofNat 0)))⟩,
    ⟨640025, (some k28), none, .load none (.t k27)⟩,
    ⟨640026, (some k29), none, .call (.fn 75) [(.t k28)]⟩,
    ⟨640027, (some k30), none, .mv (.t k0)⟩,
    ⟨640028, (some k31), none, .nilc (.t k30)⟩,
    ⟨640029, (some k32), none, .fa 2 (.t k31)⟩,
    ⟨640030, (some k33), none, .load none (.t k32)⟩,
    ⟨640031, (some k34), none, .mv (.t k1)⟩,
    ⟨640032, (some k35), none, .ia 1 none (.t k34) (.c (.i .i64 (.ofNat 0)))⟩,
    ⟨640033, (some k36), none, .load none (.t k35)⟩,
    ⟨640034, (some k37), none, .call (.fn 75) [(.t k36)]⟩,
    ⟨640035, (some k38), none, .ia 1 none (.t k33) (.t k37)⟩,
    ⟨640036, (some k39), none, .load none (.t k38)⟩,
    ⟨640037, (some k40), none, .mv (.t k5)⟩,
    ⟨640038, (some k41), none, .bsl 3 1 1 [(.i .i64 (.ofNat 0))] [(0, 1, (.t k40))]⟩,
    ⟨640039, (some k42), none, .app 3 1 (.t k39) (.t k41)⟩,
    ⟨640040, (some k43), none, .ia 1 none (.t k25) (.t k29)⟩,
    ⟨640041, none, none, .store 1 (.t k43) (.t k42)⟩]
def c64_7 : AC := .drw r64_6 [0, 1, 3, 7, 0, 16, 48, 112, 0, 256, 768, 1792, 0, 4096, 12288, 28912, 65520, 131056, 0, 262144, 1048560, 2097151, 4194303]
def r64_8 : List GI := [⟨640042, (some k44), none, .mv (.t k0)⟩,
    ⟨640043, (some k45), none, .nilc (.t k44)⟩,
    ⟨640044, (some k46), none, .fa 2 (.t k45)⟩,
    ⟨640045, (some k47), none, .load none (.t k46)⟩,
    ⟨640046, (some k48), none, .mv (.t k1)⟩,
    ⟨640047, (some k49), none, .ia 1 none (.t k48) (.c (.i .i64 (.ofNat 1)))⟩,
    ⟨640048, (some k50), none, .load none (.t k49)⟩,
    ⟨640049, (some k51), none, .call (.fn 75) [(.t k50)]⟩,
    ⟨640050, (some k52), none, .mv (.t k0)⟩,
    ⟨640051, (some k53), none, .nilc (.t k52)⟩,
    ⟨640052, (some k54), none, .fa 2 (.t k53)⟩,
    ⟨640053, (some k55), none, .load none (.t k54)⟩,
    ⟨640054, (some k56), none, .mv (.t k1)⟩,
    ⟨640055, (some k57), none, .ia 1 none (.t k56) (.c (.i .i64 (.ofNat 1)))⟩,
    ⟨640056, (some k58), none, .load none (.t k57)⟩,
    ⟨640057, (some k59), none, .call (.fn 75) [(.t k58)]⟩,
    ⟨640058, (some k60), none, .ia 1 none (.t k55) (.t k59)⟩,
    ⟨640059, (some k61), none, .load none (.t k60)⟩,
    ⟨640060, (some k62), none, .mv (.t k5)⟩,
    ⟨640061, (some k63), none, .bsl 3 1 1 [(.i .i64 (.ofNat 0))] [(0, 1, (.t k62))]⟩,
    ⟨640062, (some k64), none, .app 3 1 (.t k61) (.t k63)⟩,
    ⟨640063, (some k65), none, .ia 1 none (.t k47) (.t k51)⟩,
    ⟨640064, none, none, .store 1 (.t k65) (.t k64)⟩]
def c64_9 : AC := .drw r64_8 [0, 1, 3, 7, 0, 16, 48, 112, 0, 256, 768, 1792, 0, 4096, 12288, 28912, 65520, 131056, 0, 262144, 1048560, 2097151, 4194303]
def r64_10 : List GI := [⟨640065, (some k66), none, .mv (.t k5)⟩,
    ⟨640066, (some k4), none, .mv (.t k66)⟩]
def c64_11 : AC := .reg r64_10
def c64_12 : AC := .seq c64_11 .ret
def c64_13 : AC := .seq c64_9 c64_12
def c64_14 : AC := .seq c64_7 c64_13
def c64_15 : AC := .seq c64_5 c64_14
def c64_16 : AC := .seq c64_3 c64_15
def c64_17 : AC := .seq c64_1 c64_16
def a64 : AFn := ⟨67, [.t k4],
  c64_17⟩
theorem ok64 : chkF prog 64 a64 = true := by kernel_rfl
def r65_0 : List GI := [⟨650000, (some k6), none, .mv (.c (.i .i64 (.ofNat 0)))⟩]
def c65_1 : AC := .reg r65_0
def r65_2 : List GI := [⟨650001, (some k7), none, .mv (.c (.i .i64 (.ofNat 0)))⟩]
def c65_3 : AC := .reg r65_2
def r65_4 : List GI := [⟨650002, (some k11), none, .mv (.t k0)⟩,
    ⟨650003, (some k12), none, .call (.fn 76) [(.t k11)]⟩,
    ⟨650004, (some k8), none, .mv (.t k12)⟩]
def c65_5 : AC := .reg r65_4
def r65_6 : List GI := [⟨650005, (some k13), none, .mv (.t k8)⟩,
    ⟨650006, (some k14), none, .bin .neq 0 (.t k13) (.c (.i .i64 (.negSucc 0)))⟩]
def c65_7 : AC := .reg r65_6
def r65_8 : List GI := [⟨650007, (some k16), none, .mv (.t k0)⟩,
    ⟨650008, (some k17), none, .nilc (.t k16)⟩,
    ⟨650009, (some k18), none, .fa 11 (.t k17)⟩,
    ⟨650010, (some k19), none, .load none (.t k18)⟩,
    ⟨650011, (some k20), none, .len 0 (.t k19)⟩,
    ⟨650012, (some k21), none, .bin .eql 0 (.t k20) (.c (.i .i64 (.ofNat 0)))⟩,
    ⟨650013, (some k15), none, .mv (.t k21)⟩]
def c65_9 : AC := .reg r65_8
def r65_10 : List GI := [⟨650014, (some k22), none, .mv (.t k0)⟩,
    ⟨650015, (some k23), none, .nilc (.t k22)⟩,
    ⟨650016, (some k24), none, .fa 13 (.t k23)⟩,
    ⟨650017, none, none, .store 1 (.t k24) (.c (.b true))⟩]
def c65_11 : AC := .reg r65_10
def r65_12 : List GI := [⟨650018, (some k6), none, .mv (.c (.i .i64 (.ofNat 2)))⟩]
def c65_13 : AC := .reg r65_12
def c65_14 : AC := .seq c65_13 .ret
def c65_15 : AC := .seq c65_11 c65_14
def r65_16 : List GI := [⟨650019, (some k26), none, .mv (.t k2)⟩,
    ⟨650020, (some k27), none, .bin .geq 0 (.t k26) (.c (.i .i64 (.ofNat 0)))⟩,
    ⟨650021, (some k28), none, .mv (.t k27)⟩,
    ⟨650022, (some k29), (some (k28, true)), .mv (.t k7)⟩,
    ⟨650023, (some k30), (some (k28, true)), .mv (.t k2)⟩,
    ⟨650024, (some k31), (some (k28, true)), .bin .geq 0 (.t k29) (.t k30)⟩,
    ⟨650025, (some k32), none, .pick (.t k28) (.t k31) (.c (.b false))⟩,
    ⟨650026, (some k25), none, .mv (.t k32)⟩]
def c65_17 : AC := .reg r65_16
def r65_18 : List GI := [⟨650027, (some k6), none, .mv (.c (.i .i64 (.ofNat 3)))⟩]
def c65_19 : AC := .reg r65_18
def c65_20 : AC := .seq c65_19 .ret
def c65_21 : AC := .cond (.t k25) c65_20 .skip
def c65_22 : AC := .seq c65_17 c65_21
def c65_23 : AC := .cond (.t k15) c65_15 c65_22
def c65_24 : AC := .seq c65_9 c65_23
def c65_25 : AC := .blk 2 c65_24
def r65_26 : List GI := [⟨650028, (some k33), none, .mv (.t k0)⟩,
    ⟨650029, (some k34), none, .mv (.t k8)⟩,
    ⟨650030, (some k35), none, .call (.fn 77) [(.t k33), (.t k34)]⟩]
def c65_27 : AC := .reg r65_26
def r65_28 : List GI := [⟨650031, (some k36), none, .mv (.t k7)⟩,
    ⟨650032, (some k37), none, .bin .add 0 (.t k36) (.c (.i .i64 (.ofNat 1)))⟩,
    ⟨650033, (some k7), none, .mv (.t k37)⟩]
def c65_29 : AC := .reg r65_28
def c65_30 : AC := .seq c65_29 (.exit 1)
def c65_31 : AC := .seq c65_27 c65_30
def c65_32 : AC := .seq c65_25 c65_31
def c65_33 : AC := .cond (.t k14) c65_32 .skip
def c65_34 : AC := .seq c65_7 c65_33
def c65_35 : AC := .seq c65_5 c65_34
def r65_36 : List GI := [⟨650034, (some k9), none, .mv (.c (.i .i64 (.ofNat 0)))⟩]
def c65_37 : AC := .reg r65_36
def r65_38 : List GI := [⟨650035, (some k38), none, .mv (.t k0)⟩,
    ⟨650036, (some k39), none, .nilc (.t k38)⟩,
    ⟨650037, (some k40), none, .fa 11 (.t k39)⟩,
    ⟨650038, (some k41), none, .load none (.t k40)⟩,
    ⟨650039, (some k42), none, .len 0 (.t k41)⟩,
    ⟨650040, (some k43), none, .mv (.t k1)⟩,
    ⟨650041, (some k44), none, .len 0 (.t k43)⟩,
    ⟨650042, (some k45), none, .bin .lss 0 (.t k42) (.t k44)⟩]
def c65_39 : AC := .reg r65_38
def c65_40 : AC := .cond (.t k45) .skip (.exit 3)
def c65_41 : AC := .seq c65_39 c65_40
def r65_42 : List GI := [⟨650043, (some k46), none, .mv (.t k1)⟩,
    ⟨650044, (some k47), none, .mv (.t k0)⟩,
    ⟨650045, (some k48), none, .nilc (.t k47)⟩,
    ⟨650046, (some k49), none, .fa 11 (.t k48)⟩,
    ⟨650047, (some k50), none, .load none (.t k49)⟩,
    ⟨650048, (some k51), none, .len 0 (.t k50)⟩,
    ⟨650049, (some k52), none, .ia 1 none (.t k46) (.t k51)⟩,
    ⟨650050, (some k53), none, .load none (.t k52)⟩,
    ⟨650051, (some k10), none, .mv (.t k53)⟩]
def c65_43 : AC := .reg r65_42
def r65_44 : List GI := [⟨650052, (some k54), none, .mv (.t k0)⟩,
    ⟨650053, (some k55), none, .mv (.t k10)⟩,
    ⟨650054, (some k56), none, .call (.fn 62) [(.t k54), (.t k55)]⟩]
def c65_45 : AC := .reg r65_44
def r65_46 : List GI := [⟨650055, (some k58), none, .bin .eql 0 (.t k56) (.c (.i .i64 (.negSucc 0)))⟩,
    ⟨650056, (some k57), none, .mv (.t k58)⟩]
def c65_47 : AC := .reg r65_46
def r65_48 : List GI := [⟨650057, (some k59), none, .mv (.t k0)⟩,
    ⟨650058, (some k60), none, .mv (.t k0)⟩,
    ⟨650059, (some k61), none, .mv (.t k10)⟩,
    ⟨650060, (some k62), none, .call (.fn 78) [(.t k60), (.t k61)]⟩,
    ⟨650061, (some k63), none, .nilc (.t k59)⟩,
    ⟨650062, (some k64), none, .fa 16 (.t k63)⟩,
    ⟨650063, none, none, .store 1 (.t k64) (.t k62)⟩]
def c65_49 : AC := .reg r65_48
def r65_50 : List GI := [⟨650064, (some k6), none, .mv (.c (.i .i64 (.ofNat 2)))⟩]
def c65_51 : AC := .reg r65_50
def c65_52 : AC := .seq c65_51 .ret
def c65_53 : AC := .seq c65_49 c65_52
def r65_54 : List GI := [⟨650065, (some k66), none, .bin .eql 0 (.t k56) (.c (.i .i64 (.ofNat 0)))⟩,
    ⟨650066, (some k65), none, .mv (.t k66)⟩]
def c65_55 : AC := .reg r65_54
def r65_56 : List GI := [⟨650067, (some k67), none, .mv (.t k10)⟩,
    ⟨650068, (some k9), none, .mv (.t k67)⟩]
def c65_57 : AC := .reg r65_56
def c65_58 : AC := .seq c65_57 (.exit 3)
def c65_59 : AC := .cond (.t k65) c65_58 .skip
def c65_60 : AC := .seq c65_55 c65_59
def c65_61 : AC := .cond (.t k57) c65_53 c65_60
def c65_62 : AC := .seq c65_47 c65_61
def c65_63 : AC := .blk 5 c65_62
def c65_64 : AC := .seq c65_45 c65_63
def r65_65 : List GI := [⟨650069, (some k68), none, .mv (.t k0)⟩,
    ⟨650070, (some k69), none, .mv (.t k0)⟩,
    ⟨650071, (some k70), none, .nilc (.t k69)⟩,
    ⟨650072, (some k71), none, .fa 11 (.t k70)⟩,
    ⟨650073, (some k72), none, .load none (.t k71)⟩,
    ⟨650074, (some k73), none, .mv (.t k0)⟩,
    ⟨650075, (some k74), none, .nilc (.t k73)⟩,
    ⟨650076, (some k75), none, .fa 10 (.t k74)⟩,
    ⟨650077, (some k76), none, .load none (.t k75)⟩,
    ⟨650078, (some k77), none, .len 0 (.t k76)⟩,
    ⟨650079, (some k78), none, .bsl 3 1 1 [(.i .i64 (.ofNat 0))] [(0, 1, (.t k77))]⟩,
    ⟨650080, (some k79), none, .app 3 1 (.t k72) (.t k78)⟩,
    ⟨650081, (some k80), none, .nilc (.t k68)⟩,
    ⟨650082, (some k81), none, .fa 11 (.t k80)⟩,
    ⟨650083, none, none, .store 1 (.t k81) (.t k79)⟩]
def c65_66 : AC := .drw r65_65 [0, 0, 2, 6, 14, 0, 32, 96, 224, 480, 992, 2046, 4095, 8191, 16383]
def c65_67 : AC := .seq c65_64 c65_66
def c65_68 : AC := .seq c65_43 c65_67
def c65_69 : AC := .blk 4 c65_68
def c65_70 : AC := .seq c65_41 c65_69
def c65_71 : AC := .loop c65_70
def c65_72 : AC := .blk 3 c65_71
def r65_73 : List GI := [⟨650084, (some k82), none, .mv (.t k9)⟩,
    ⟨650085, (some k83), none, .bin .eql 0 (.t k82) (.c (.i .i64 (.ofNat 0)))⟩]
def c65_74 : AC := .reg r65_73
def r65_75 : List GI := [⟨650086, (some k84), none, .mv (.t k0)⟩,
    ⟨650087, (some k85), none, .call (.fn 79) [(.t k84)]⟩,
    ⟨650088, (some k9), none, .mv (.t k85)⟩]
def c65_76 : AC := .reg r65_75
def c65_77 : AC := .cond (.t k83) c65_76 .skip
def c65_78 : AC := .seq c65_74 c65_77
def r65_79 : List GI := [⟨650089, (some k86), none, .mv (.t k9)⟩,
    ⟨650090, (some k87), none, .bin .eql 0 (.t k86) (.c (.i .i64 (.ofNat 0)))⟩]
def c65_80 : AC := .reg r65_79
def r65_81 : List GI := [⟨650091, (some k6), none, .mv (.c (.i .i64 (.ofNat 1)))⟩]
def c65_82 : AC := .reg r65_81
def c65_83 : AC := .seq c65_82 .ret
def c65_84 : AC := .cond (.t k87) c65_83 .skip
def c65_85 : AC := .seq c65_80 c65_84
def r65_86 : List GI := [⟨650092, (some k88), none, .mv (.t k0)⟩,
    ⟨650093, (some k89), none, .mv (.t k0)⟩,
    ⟨650094, (some k90), none, .nilc (.t k89)⟩,
    ⟨650095, (some k91), none, .fa 11 (.t k90)⟩,
    ⟨650096, (some k92), none, .load none (.t k91)⟩,
    ⟨650097, (some k93), none, .mv (.t k0)⟩,
    ⟨650098, (some k94), none, .nilc (.t k93)⟩,
    ⟨650099, (some k95), none, .fa 10 (.t k94)⟩,
    ⟨650100, (some k96), none, .load none (.t k95)⟩,
    ⟨650101, (some k97), none, .len 0 (.t k96)⟩,
    ⟨650102, (some k98), none, .bsl 3 1 1 [(.i .i64 (.ofNat 0))] [(0, 1, (.t k97))]⟩,
    ⟨650103, (some k99), none, .app 3 1 (.t k92) (.t k98)⟩,
    ⟨650104, (some k100), none, .nilc (.t k88)⟩,
    ⟨650105, (some k101), none, .fa 11 (.t k100)⟩,
    ⟨650106, none, none, .store 1 (.t k101) (.t k99)⟩]
def c65_87 : AC := .drw r65_86 [0, 0, 2, 6, 14, 0, 32, 96, 224, 480, 992, 2046, 4095, 8191, 16383]
def r65_88 : List GI := [⟨650107, (some k102), none, .mv (.t k0)⟩,
    ⟨650108, (some k103), none, .mv (.t k9)⟩,
    ⟨650109, (some k104), none, .call (.fn 63) [(.t k102), (.t k103), (.c (.i .i64 (.negSucc 0)))]⟩]
def c65_89 : AC := .reg r65_88
def c65_90 : AC := .seq c65_87 c65_89
def c65_91 : AC := .seq c65_85 c65_90
def c65_92 : AC := .seq c65_78 c65_91
def c65_93 : AC := .seq c65_72 c65_92
def c65_94 : AC := .seq .label c65_93
def c65_95 : AC := .seq c65_37 c65_94
def c65_96 : AC := .seq c65_35 c65_95
def c65_97 : AC := .scope c65_96
def c65_98 : AC := .blk 1 c65_97
def c65_99 : AC := .loop c65_98
def c65_100 : AC := .blk 0 c65_99
def c65_101 : AC := .seq c65_3 c65_100
def c65_102 : AC := .seq c65_1 c65_101
def a65 : AFn := ⟨105, [.t k6],
  c65_102⟩
theorem ok65 : chkF prog 65 a65 = true := by kernel_rfl
def r66_0 : List GI := [⟨660000, (some k12), none, .mv (.t k1)⟩,
    ⟨660001, (some k10), none, .mv (.t k12)⟩]
def c66_1 : AC := .reg r66_0
def r66_2 : List GI := [⟨660002, (some k13), none, .mv (.t k10)⟩,
    ⟨660003, (some k14), none, .bin .mul 0 (.c (.i .i64 (.ofNat 2))) (.t k13)⟩,
    ⟨660004, (some k15), none, .bin .add 0 (.t k14) (.c (.i .i64 (.ofNat 1)))⟩,
    ⟨660005, (some k11), none, .mv (.t k15)⟩]
def c66_3 : AC := .reg r66_2
def r66_4 : List GI := [⟨660006, (some k16), none, .mv (.t k11)⟩,
    ⟨660007, (some k17), none, .mv (.t k2)⟩,
    ⟨660008, (some k18), none, .bin .geq 0 (.t k16) (.t k17)⟩]
def c66_5 : AC := .reg r66_4
def c66_6 : AC := .cond (.t k18) (.exit 0) .skip
def c66_7 : AC := .seq c66_5 c66_6
def r66_8 : List GI := [⟨660009, (some k19), none, .mv (.t k11)⟩,
    ⟨660010, (some k20), none, .bin .add 0 (.t k19) (.c (.i .i64 (.ofNat 1)))⟩,
    ⟨660011, (some k21), none, .mv (.t k2)⟩,
    ⟨660012, (some k22), none, .bin .lss 0 (.t k20) (.t k21)⟩,
    ⟨660013, (some k23), none, .mv (.t k22)⟩,
    ⟨660014, (some k24), (some (k23, true)), .mv (.t k4)⟩,
    ⟨660015, (some k25), (some (k23, true)), .mv (.t k0)⟩,
    ⟨660016, (some k26), (some (k23, true)), .mv (.t k3)⟩,
    ⟨660017, (some k27), (some (k23, true)), .mv (.t k11)⟩,
    ⟨660018, (some k28), (some (k23, true)), .bin .add 0 (.t k26) (.t k27)⟩,
    ⟨660019, (some k29), (some (k23, true)), .ia 1 none (.t k25) (.t k28)⟩,
    ⟨660020, (some k30), (some (k23, true)), .load none (.t k29)⟩,
    ⟨660021, (some k31), (some (k23, true)), .mv (.t k0)⟩,
    ⟨660022, (some k32), (some (k23, true)), .mv (.t k3)⟩,
    ⟨660023, (some k33), (some (k23, true)), .mv (.t k11)⟩,
    ⟨660024, (some k34), (some (k23, true)), .bin .add 0 (.t k32) (.t k33)⟩,
    ⟨660025, (some k35), (some (k23, true)), .bin .add 0 (.t k34) (.c (.i .i64 (.ofNat 1)))⟩,
    ⟨660026, (some k36), (some (k23, true)), .ia 1 none (.t k31) (.t k35)⟩,
    ⟨660027, (some k37), (some (k23, true)), .load none (.t k36)⟩,
    ⟨660028, (some k38), (some (k23, true)), .call (.t k24) [(.t k30), (.t k37)]⟩,
    ⟨660029, (some k39), (some (k23, true)), .bin .lss 0 (.t k38) (.c (.i .i64 (.ofNat 0)))⟩,
    ⟨660030, (some k40), none, .pick (.t k23) (.t k39) (.c (.b false))⟩]
def c66_9 : AC := .drw r66_8 [0, 1, 0, 7, 15, 31, 31, 31, 31, 415, 991, 2015, 31, 31, 31, 24607, 57375, 127007, 258079, 524287, 1048575, 2097151]
def r66_10 : List GI := [⟨660031, (some k41), none, .mv (.t k11)⟩,
    ⟨660032, (some k42), none, .bin .add 0 (.t k41) (.c (.i .i64 (.ofNat 1)))⟩,
    ⟨660033, (some k11), none, .mv (.t k42)⟩]
def c66_11 : AC := .reg r66_10
def c66_12 : AC := .cond (.t k40) c66_11 .skip
def c66_13 : AC := .seq c66_9 c66_12
def r66_14 : List GI := [⟨660034, (some k43), none, .mv (.t k4)⟩,
    ⟨660035, (some k44), none, .mv (.t k0)⟩,
    ⟨660036, (some k45), none, .mv (.t k3)⟩,
    ⟨660037, (some k46), none, .mv (.t k10)⟩,
    ⟨660038, (some k47), none, .bin .add 0 (.t k45) (.t k46)⟩,
    ⟨660039, (some k48), none, .ia 1 none (.t k44) (.t k47)⟩,
    ⟨660040, (some k49), none, .load none (.t k48)⟩,
    ⟨660041, (some k50), none, .mv (.t k0)⟩,
    ⟨660042, (some k51), none, .mv (.t k3)⟩,
    ⟨660043, (some k52), none, .mv (.t k11)⟩,
    ⟨660044, (some k53), none, .bin .add 0 (.t k51) (.t k52)⟩,
    ⟨660045, (some k54), none, .ia 1 none (.t k50) (.t k53)⟩,
    ⟨660046, (some k55), none, .load none (.t k54)⟩,
    ⟨660047, (some k56), none, .call (.t k43) [(.t k49), (.t k55)]⟩,
    ⟨660048, (some k57), none, .bin .lss 0 (.t k56) (.c (.i .i64 (.ofNat 0)))⟩,
    ⟨660049, (some k58), none, .un .not (.t k57)⟩]
def c66_15 : AC := .drw r66_14 [0, 0, 0, 0, 12, 30, 62, 0, 0, 0, 768, 1920, 3968, 8191, 16383, 32767]
def c66_16 : AC := .cond (.t k58) .ret .skip
def c66_17 : AC := .seq c66_15 c66_16
def r66_18 : List GI := [⟨660050, (some k59), none, .mv (.t k0)⟩,
    ⟨660051, (some k60), none, .mv (.t k3)⟩,
    ⟨660052, (some k61), none, .mv (.t k10)⟩,
    ⟨660053, (some k62), none, .bin .add 0 (.t k60) (.t k61)⟩,
    ⟨660054, (some k63), none, .mv (.t k0)⟩,
    ⟨660055, (some k64), none, .mv (.t k3)⟩,
    ⟨660056, (some k65), none, .mv (.t k11)⟩,
    ⟨660057, (some k66), none, .bin .add 0 (.t k64) (.t k65)⟩,
    ⟨660058, (some k67), none, .mv (.t k0)⟩,
    ⟨660059, (some k68), none, .mv (.t k3)⟩,
    ⟨660060, (some k69), none, .mv (.t k11)⟩,
    ⟨660061, (some k70), none, .bin .add 0 (.t k68) (.t k69)⟩,
    ⟨660062, (some k71), none, .ia 1 none (.t k67) (.t k70)⟩,
    ⟨660063, (some k72), none, .load none (.t k71)⟩,
    ⟨660064, (some k73), none, .mv (.t k0)⟩,
    ⟨660065, (some k74), none, .mv (.t k3)⟩,
    ⟨660066, (some k75), none, .mv (.t k10)⟩,
    ⟨660067, (some k76), none, .bin .add 0 (.t k74) (.t k75)⟩,
    ⟨660068, (some k77), none, .ia 1 none (.t k73) (.t k76)⟩,
    ⟨660069, (some k78), none, .load none (.t k77)⟩,
    ⟨660070, (some k79), none, .ia 1 none (.t k59) (.t k62)⟩,
    ⟨660071, none, none, .store 1 (.t k79) (.t k72)⟩,
    ⟨660072, (some k80), none, .ia 1 none (.t k63) (.t k66)⟩,
    ⟨660073, none, none, .store 1 (.t k80) (.t k78)⟩]
def c66_19 : AC := .drw r66_18 [0, 0, 0, 6, 0, 0, 0, 96, 0, 0, 0, 1536, 3840, 7936, 0, 0, 0, 98304, 245760, 507904, 1048335, 2096911, 4194303, 8388607]
def r66_20 : List GI := [⟨660074, (some k81), none, .mv (.t k11)⟩,
    ⟨660075, (some k10), none, .mv (.t k81)⟩]
def c66_21 : AC := .reg r66_20
def c66_22 : AC := .seq c66_19 c66_21
def c66_23 : AC := .seq c66_17 c66_22
def c66_24 : AC := .seq c66_13 c66_23
def c66_25 : AC := .seq c66_7 c66_24
def c66_26 : AC := .seq c66_3 c66_25
def c66_27 : AC := .blk 1 c66_26
def c66_28 : AC := .loop c66_27
def c66_29 : AC := .blk 0 c66_28
def c66_30 : AC := .seq c66_1 c66_29
def a66 : AFn := ⟨82, [],
  c66_30⟩
theorem ok66 : chkF prog 66 a66 = true := by kernel_rfl
def r67_0 : List GI := [⟨670000, (some k2), none, .mv (.c (.i .u64 (.ofNat 0)))⟩]
def c67_1 : AC := .reg r67_0
def r67_2 : List GI := [⟨670001, (some k3), none, .mv (.t k0)⟩,
    ⟨670002, (some k4), none, .conv .u64 (.t k3)⟩,
    ⟨670003, (some k5), none, .call (.fn 35) [(.t k4)]⟩,
    ⟨670004, (some k6), none, .bin .shl 0 (.c (.i .u64 (.ofNat 1))) (.t k5)⟩,
    ⟨670005, (some k2), none, .mv (.t k6)⟩]
def c67_3 : AC := .reg r67_2
def c67_4 : AC := .seq c67_3 .ret
def c67_5 : AC := .seq c67_1 c67_4
def a67 : AFn := ⟨7, [.t k2],
  c67_5⟩
theorem ok67 : chkF prog 67 a67 = true := by kernel_rfl
def r68_0 : List GI := [⟨680000, (some k2), none, .mv (.c (.i .u64 (.ofNat 0)))⟩]
def c68_1 : AC := .reg r68_0
def r68_2 : List GI := [⟨680001, (some k3), none, .mv (.t k0)⟩,
    ⟨680002, (some k4), none, .nilc (.t k3)⟩,
    ⟨680003, (some k5), none, .load none (.t k4)⟩,
    ⟨680004, (some k6), none, .mv (.t k0)⟩,
    ⟨680005, (some k7), none, .nilc (.t k6)⟩,
    ⟨680006, (some k8), none, .load none (.t k7)⟩,
    ⟨680007, (some k9), none, .bin .shl 0 (.t k8) (.c (.i .u64 (.ofNat 13)))⟩,
    ⟨680008, (some k10), none, .bin .xor 0 (.t k5) (.t k9)⟩,
    ⟨680009, (some k11), none, .nilc (.t k3)⟩,
    ⟨680010, none, none, .store 1 (.t k11) (.t k10)⟩]
def c68_3 : AC := .drw r68_2 [0, 1, 3, 0, 8, 24, 56, 127, 255, 511]
def r68_4 : List GI := [⟨680011, (some k12), none, .mv (.t k0)⟩,
    ⟨680012, (some k13), none, .nilc (.t k12)⟩,
    ⟨680013, (some k14), none, .load none (.t k13)⟩,
    ⟨680014, (some k15), none, .mv (.t k0)⟩,
    ⟨680015, (some k16), none, .nilc (.t k15)⟩,
    ⟨680016, (some k17), none, .load none (.t k16)⟩,
    ⟨680017, (some k18), none, .bin .shr 0 (.t k17) (.c (.i .u64 (.ofNat 7)))⟩,
    ⟨680018, (some k19), none, .bin .xor 0 (.t k14) (.t k18)⟩,
    ⟨680019, (some k20), none, .nilc (.t k12)⟩,
    ⟨680020, none, none, .store 1 (.t k20) (.t k19)⟩]
def c68_5 : AC := .drw r68_4 [0, 1, 3, 0, 8, 24, 56, 127, 255, 511]
def r68_6 : List GI := [⟨680021, (some k21), none, .mv (.t k0)⟩,
    ⟨680022, (some k22), none, .nilc (.t k21)⟩,
    ⟨680023, (some k23), none, .load none (.t k22)⟩,
    ⟨680024, (some k24), none, .mv (.t k0)⟩,
    ⟨680025, (some k25), none, .nilc (.t k24)⟩,
    ⟨680026, (some k26), none, .load none (.t k25)⟩,
    ⟨680027, (some k27), none, .bin .shl 0 (.t k26) (.c (.i .u64 (.ofNat 17)))⟩,
    ⟨680028, (some k28), none, .bin .xor 0 (.t k23) (.t k27)⟩,
    ⟨680029, (some k29), none, .nilc (.t k21)⟩,
    ⟨680030, none, none, .store 1 (.t k29) (.t k28)⟩]
def c68_7 : AC := .drw r68_6 [0, 1, 3, 0, 8, 24, 56, 127, 255, 511]
def r68_8 : List GI := [⟨680031, (some k30), none, .mv (.t k0)⟩,
    ⟨680032, (some k31), none, .nilc (.t k30)⟩,
    ⟨680033, (some k32), none, .load none (.t k31)⟩,
    ⟨680034, (some k2), none, .mv (.t k32)⟩]
def c68_9 : AC := .reg r68_8
def c68_10 : AC := .seq c68_9 .ret
def c68_11 : AC := .seq c68_7 c68_10
def c68_12 : AC := .seq c68_5 c68_11
def c68_13 : AC := .seq c68_3 c68_12
def c68_14 : AC := .seq c68_1 c68_13
def a68 : AFn := ⟨33, [.t k2],
  c68_14⟩
theorem ok68 : chkF prog 68 a68 = true := by kernel_rfl
def r69_0 : List GI := [⟨690000, (some k8), none, .mv (.c (.i .i64 (.ofNat 0)))⟩]
def c69_1 : AC := .reg r69_0
def r69_2 : List GI := [⟨690001, (some k9), none, .mv (.t k0)⟩,
    ⟨690002, (some k10), none, .mv (.t k1)⟩,
    ⟨690003, (some k11), none, .bin .sub 0 (.t k10) (.c (.i .i64 (.ofNat 1)))⟩,
    ⟨690004, (some k12), none, .mv (.t k1)⟩,
    ⟨690005, (some k13), none, .mv (.t k1)⟩,
    ⟨690006, (some k14), none, .bin .add 0 (.t k13) (.c (.i .i64 (.ofNat 1)))⟩,
    ⟨690007, (some k15), none, .mv (.t k2)⟩,
    ⟨690008, (some k16), none, .mv (.t k3)⟩,
    ⟨690009, (some k17), none, .call (.fn 70) [(.t k9), (.t k11), (.t k12), (.t k14), (.t k15), (.t k16)]⟩,
    ⟨690010, (some k8), none, .mv (.t k17)⟩]
def c69_3 : AC := .reg r69_2
def c69_4 : AC := .seq c69_3 .ret
def c69_5 : AC := .seq c69_1 c69_4
def a69 : AFn := ⟨18, [.t k8],
  c69_5⟩
theorem ok69 : chkF prog 69 a69 = true := by kernel_rfl
def r70_0 : List GI := [⟨700000, (some k12), none, .mv (.c (.i .i64 (.ofNat 0)))⟩]
def c70_1 : AC := .reg r70_0
def r70_2 : List GI := [⟨700001, (some k14), none, .mv (.t k0)⟩,
    ⟨700002, (some k15), none, .mv (.t k1)⟩,
    ⟨700003, (some k16), none, .mv (.t k2)⟩,
    ⟨700004, (some k17), none, .mv (.t k4)⟩,
    ⟨700005, (some k18), none, .mv (.t k5)⟩,
    ⟨700006, (some k19), none, .call (.fn 80) [(.t k14), (.t k15), (.t k16), (.t k17), (.t k18)]⟩,
    ⟨700007, (some k13), none, .mv (.t k19)⟩,
    ⟨700008, (some k20), none, .ext 0 (.t k13)⟩,
    ⟨700009, (some k21), none, .ext 1 (.t k13)⟩,
    ⟨700010, (some k1), none, .mv (.t k20)⟩,
    ⟨700011, (some k2), none, .mv (.t k21)⟩]
def c70_3 : AC := .reg r70_2
def r70_4 : List GI := [⟨700012, (some k23), none, .mv (.t k0)⟩,
    ⟨700013, (some k24), none, .mv (.t k2)⟩,
    ⟨700014, (some k25), none, .mv (.t k3)⟩,
    ⟨700015, (some k26), none, .mv (.t k4)⟩,
    ⟨700016, (some k27), none, .mv (.t k5)⟩,
    ⟨700017, (some k28), none, .call (.fn 80) [(.t k23), (.t k24), (.t k25), (.t k26), (.t k27)]⟩,
    ⟨700018, (some k22), none, .mv (.t k28)⟩,
    ⟨700019, (some k29), none, .ext 0 (.t k22)⟩,
    ⟨700020, (some k30), none, .ext 1 (.t k22)⟩,
    ⟨700021, (some k2), none, .mv (.t k29)⟩,
    ⟨700022, (some k3), none, .mv (.t k30)⟩]
def c70_5 : AC := .reg r70_4
def r70_6 : List GI := [⟨700023, (some k32), none, .mv (.t k0)⟩,
    ⟨700024, (some k33), none, .mv (.t k1)⟩,
    ⟨700025, (some k34), none, .mv (.t k2)⟩,
    ⟨700026, (some k35), none, .mv (.t k4)⟩,
    ⟨700027, (some k36), none, .mv (.t k5)⟩,
    ⟨700028, (some k37), none, .call (.fn 80) [(.t k32), (.t k33), (.t k34), (.t k35), (.t k36)]⟩,
    ⟨700029, (some k31), none, .mv (.t k37)⟩,
    ⟨700030, (some k38), none, .ext 0 (.t k31)⟩,
    ⟨700031, (some k39), none, .ext 1 (.t k31)⟩,
    ⟨700032, (some k1), none, .mv (.t k38)⟩,
    ⟨700033, (some k2), none, .mv (.t k39)⟩]
def c70_7 : AC := .reg r70_6
def r70_8 : List GI := [⟨700034, (some k40), none, .mv (.t k2)⟩,
    ⟨700035, (some k12), none, .mv (.t k40)⟩]
def c70_9 : AC := .reg r70_8
def c70_10 : AC := .seq c70_9 .ret
def c70_11 : AC := .seq c70_7 c70_10
def c70_12 : AC := .seq c70_5 c70_11
def c70_13 : AC := .seq c70_3 c70_12
def c70_14 : AC := .seq c70_1 c70_13
def a70 : AFn := ⟨41, [.t k12],
  c70_14⟩
theorem ok70 : chkF prog 70 a70 = true := by kernel_rfl
def r71_0 : List GI := [⟨710000, (some k4), none, .mv (.c .nils)⟩]
def c71_1 : AC := .reg r71_0
def r71_2 : List GI := [⟨710001, (some k5), none, .mv (.t k0)⟩,
    ⟨710002, (some k6), none, .mv (.t k1)⟩,
    ⟨710003, (some k7), none, .mv (.t k0)⟩,
    ⟨710004, (some k8), none, .len 0 (.t k7)⟩,
    ⟨710005, (some k9), none, .bin .sub 0 (.t k6) (.t k8)⟩,
    ⟨710006, (some k10), none, .appz 3 1 [(.i .i64 (.ofNat 0))] (.t k5) (.t k9)⟩,
    ⟨710007, (some k4), none, .mv (.t k10)⟩]
def c71_3 : AC := .reg r71_2
def c71_4 : AC := .seq c71_3 .ret
def c71_5 : AC := .seq c71_1 c71_4
def a71 : AFn := ⟨11, [.t k4],
  c71_5⟩
theorem ok71 : chkF prog 71 a71 = true := by kernel_rfl
def r72_0 : List GI := [⟨720000, (some k4), none, .mv (.c (.i .i64 (.ofNat 0)))⟩]
def c72_1 : AC := .reg r72_0
def r72_2 : List GI := [⟨720001, (some k6), none, .mv (.t k1)⟩,
    ⟨720002, (some k7), none, .bin .add 0 (.t k6) (.c (.i .i64 (.ofNat 1)))⟩,
    ⟨720003, (some k8), none, .mv (.t k0)⟩,
    ⟨720004, (some k9), none, .bin .shr 0 (.t k8) (.c (.i .u64 (.ofNat 1)))⟩,
    ⟨720005, (some k10), none, .bin .add 0 (.t k7) (.t k9)⟩,
    ⟨720006, (some k5), none, .mv (.t k10)⟩]
def c72_3 : AC := .reg r72_2
def r72_4 : List GI := [⟨720007, (some k11), none, .mv (.t k5)⟩,
    ⟨720008, (some k12), none, .mv (.t k0)⟩,
    ⟨720009, (some k13), none, .bin .and 0 (.t k12) (.c (.i .i64 (.ofNat 1)))⟩,
    ⟨720010, (some k14), none, .bin .mul 0 (.c (.i .i64 (.ofNat 2))) (.t k13)⟩,
    ⟨720011, (some k15), none, .bin .sub 0 (.c (.i .i64 (.ofNat 1))) (.t k14)⟩,
    ⟨720012, (some k16), none, .bin .mul 0 (.t k11) (.t k15)⟩,
    ⟨720013, (some k4), none, .mv (.t k16)⟩]
def c72_5 : AC := .reg r72_4
def c72_6 : AC := .seq c72_5 .ret
def c72_7 : AC := .seq c72_3 c72_6
def c72_8 : AC := .seq c72_1 c72_7
def a72 : AFn := ⟨17, [.t k4],
  c72_8⟩
theorem ok72 : chkF prog 72 a72 = true := by kernel_rfl
def r73_0 : List GI := [⟨730000, (some k3), none, .mv (.c (.b false))⟩]
def c73_1 : AC := .reg r73_0
def r73_2 : List GI := [⟨730001, (some k4), none, .mv (.t k0)⟩,
    ⟨730002, (some k5), none, .bin .eql 0 (.t k4) (.c (.i .i64 (.ofNat 0)))⟩,
    ⟨730003, (some k6), none, .mv (.t k5)⟩,
    ⟨730004, (some k7), (some (k6, false)), .mv (.t k0)⟩,
    ⟨730005, (some k8), (some (k6, false)), .load none (.t k1)⟩,
    ⟨730006, (some k9), (some (k6, false)), .nilc (.t k8)⟩,
    ⟨730007, (some k10), (some (k6, false)), .fa 0 (.t k9)⟩,
    ⟨730008, (some k11), (some (k6, false)), .load none (.t k10)⟩,
    ⟨730009, (some k12), (some (k6, false)), .un .neg (.t k11)⟩,
    ⟨730010, (some k13), (some (k6, false)), .bin .lss 0 (.t k7) (.t k12)⟩,
    ⟨730011, (some k14), none, .pick (.t k6) (.c (.b true)) (.t k13)⟩,
    ⟨730012, (some k15), none, .mv (.t k14)⟩,
    ⟨730013, (some k16), (some (k15, false)), .mv (.t k0)⟩,
    ⟨730014, (some k17), (some (k15, false)), .load none (.t k1)⟩,
    ⟨730015, (some k18), (some (k15, false)), .nilc (.t k17)⟩,
    ⟨730016, (some k19), (some (k15, false)), .fa 0 (.t k18)⟩,
    ⟨730017, (some k20), (some (k15, false)), .load none (.t k19)⟩,
    ⟨730018, (some k21), (some (k15, false)), .bin .gtr 0 (.t k16) (.t k20)⟩,
    ⟨730019, (some k22), none, .pick (.t k15) (.c (.b true)) (.t k21)⟩,
    ⟨730020, (some k3), none, .mv (.t k22)⟩]
def c73_3 : AC := .reg r73_2
def c73_4 : AC := .seq c73_3 .ret
def c73_5 : AC := .seq c73_1 c73_4
def a73 : AFn := ⟨23, [.t k3],
  c73_5⟩
theorem ok73 : chkF prog 73 a73 = true := by kernel_rfl
def r74_0 : List GI := [⟨740000, (some k2), none, .mv (.c (.i .i64 (.ofNat 0)))⟩]
def c74_1 : AC := .reg r74_0
def r74_2 : List GI := [⟨740001, (some k3), none, .mv (.t k0)⟩,
    ⟨740002, (some k4), none, .mv (.t k0)⟩,
    ⟨740003, (some k5), none, .un .neg (.t k4)⟩,
    ⟨740004, (some k6), none, .mm true [(.t k3), (.t k5)]⟩,
    ⟨740005, (some k2), none, .mv (.t k6)⟩]
def c74_3 : AC := .reg r74_2
def c74_4 : AC := .seq c74_3 .ret
def c74_5 : AC := .seq c74_1 c74_4
def a74 : AFn := ⟨7, [.t k2],
  c74_5⟩
theorem ok74 : chkF prog 74 a74 = true := by kernel_rfl
def r75_0 : List GI := [⟨750000, (some k2), none, .mv (.c (.i .i64 (.ofNat 0)))⟩]
def c75_1 : AC := .reg r75_0
def r75_2 : List GI := [⟨750001, (some k3), none, .mv (.t k0)⟩,
    ⟨750002, (some k4), none, .bin .lss 0 (.t k3) (.c (.i .i64 (.ofNat 0)))⟩]
def c75_3 : AC := .reg r75_2
def r75_4 : List GI := [⟨750003, (some k5), none, .mv (.t k0)⟩,
    ⟨750004, (some k6), none, .bin .mul 0 (.c (.i .i64 (.negSucc 1))) (.t k5)⟩,
    ⟨750005, (some k7), none, .bin .add 0 (.t k6) (.c (.i .i64 (.ofNat 1)))⟩,
    ⟨750006, (some k2), none, .mv (.t k7)⟩]
def c75_5 : AC := .reg r75_4
def c75_6 : AC := .seq c75_5 .ret
def c75_7 : AC := .cond (.t k4) c75_6 .skip
def c75_8 : AC := .seq c75_3 c75_7
def r75_9 : List GI := [⟨750007, (some k8), none, .mv (.t k0)⟩,
    ⟨750008, (some k9), none, .bin .mul 0 (.c (.i .i64 (.ofNat 2))) (.t k8)⟩,
    ⟨750009, (some k2), none, .mv (.t k9)⟩]
def c75_10 : AC := .reg r75_9
def c75_11 : AC := .seq c75_10 .ret
def c75_12 : AC := .seq c75_8 c75_11
def c75_13 : AC := .seq c75_1 c75_12
def a75 : AFn := ⟨10, [.t k2],
  c75_13⟩
theorem ok75 : chkF prog 75 a75 = true := by kernel_rfl
def r76_0 : List GI := [⟨760000, (some k2), none, .mv (.c (.i .i64 (.ofNat 0)))⟩]
def c76_1 : AC := .reg r76_0
def r76_2 : List GI := [⟨760001, (some k10), none, .mv (.t k0)⟩,
    ⟨760002, (some k11), none, .nilc (.t k10)⟩,
    ⟨760003, (some k12), none, .fa 12 (.t k11)⟩,
    ⟨760004, (some k13), none, .load none (.t k12)⟩,
    ⟨760005, (some k14), none, .mv (.t k0)⟩,
    ⟨760006, (some k15), none, .nilc (.t k14)⟩,
    ⟨760007, (some k16), none, .fa 10 (.t k15)⟩,
    ⟨760008, (some k17), none, .load none (.t k16)⟩,
    ⟨760009, (some k18), none, .len 0 (.t k17)⟩,
    ⟨760010, (some k19), none, .bin .lss 0 (.t k13) (.t k18)⟩]
def c76_3 : AC := .drw r76_2 [0, 1, 3, 7, 0, 16, 48, 112, 240, 511]
def c76_4 : AC := .cond (.t k19) .skip (.exit 0)
def c76_5 : AC := .seq c76_3 c76_4
def r76_6 : List GI := [⟨760011, (some k20), none, .mv (.t k0)⟩,
    ⟨760012, (some k21), none, .nilc (.t k20)⟩,
    ⟨760013, (some k22), none, .fa 10 (.t k21)⟩,
    ⟨760014, (some k23), none, .load none (.t k22)⟩,
    ⟨760015, (some k24), none, .mv (.t k0)⟩,
    ⟨760016, (some k25), none, .nilc (.t k24)⟩,
    ⟨760017, (some k26), none, .fa 12 (.t k25)⟩,
    ⟨760018, (some k27), none, .load none (.t k26)⟩,
    ⟨760019, (some k28), none, .ia 1 none (.t k23) (.t k27)⟩,
    ⟨760020, (some k29), none, .load none (.t k28)⟩,
    ⟨760021, (some k30), none, .un .neg (.t k29)⟩,
    ⟨760022, (some k3), none, .mv (.t k30)⟩]
def c76_7 : AC := .drw r76_6 [0, 1, 3, 7, 0, 16, 48, 112, 255, 511, 1023, 2047]
def r76_8 : List GI := [⟨760023, (some k31), none, .mv (.t k0)⟩,
    ⟨760024, (some k32), none, .nilc (.t k31)⟩,
    ⟨760025, (some k33), none, .fa 12 (.t k32)⟩,
    ⟨760026, (some k34), none, .load none (.t k33)⟩,
    ⟨760027, (some k35), none, .bin .add 0 (.t k34) (.c (.i .i64 (.ofNat 1)))⟩,
    ⟨760028, (some k36), none, .nilc (.t k31)⟩,
    ⟨760029, (some k37), none, .fa 12 (.t k36)⟩,
    ⟨760030, none, none, .store 1 (.t k37) (.t k35)⟩]
def c76_9 : AC := .reg r76_8
def r76_10 : List GI := [⟨760031, (some k38), none, .mv (.t k0)⟩,
    ⟨760032, (some k39), none, .nilc (.t k38)⟩,
    ⟨760033, (some k40), none, .fa 2 (.t k39)⟩,
    ⟨760034, (some k41), none, .load none (.t k40)⟩,
    ⟨760035, (some k42), none, .mv (.t k3)⟩,
    ⟨760036, (some k43), none, .call (.fn 75) [(.t k42)]⟩,
    ⟨760037, (some k44), none, .ia 1 none (.t k41) (.t k43)⟩,
    ⟨760038, (some k45), none, .load none (.t k44)⟩,
    ⟨760039, (some k4), none, .mv (.t k45)⟩]
def c76_11 : AC := .drw r76_10 [0, 1, 3, 7, 0, 16, 63, 127, 255]
def r76_12 : List GI := [⟨760040, (some k5), none, .mv (.c (.i .i64 (.ofNat 0)))⟩]
def c76_13 : AC := .reg r76_12
def r76_14 : List GI := [⟨760041, (some k46), none, .mv (.t k4)⟩,
    ⟨760042, (some k47), none, .len 0 (.t k46)⟩,
    ⟨760043, (some k48), none, .mv (.c (.i .i64 (.ofNat 0)))⟩]
def c76_15 : AC := .reg r76_14
def r76_16 : List GI := [⟨760044, (some k49), none, .bin .lss 0 (.t k48) (.t k47)⟩]
def c76_17 : AC := .reg r76_16
def c76_18 : AC := .cond (.t k49) .skip (.exit 2)
def r76_19 : List GI := [⟨760045, (some k50), none, .mv (.t k48)⟩,
    ⟨760046, (some k51), none, .ia 1 none (.t k46) (.t k48)⟩,
    ⟨760047, (some k52), none, .load none (.t k51)⟩,
    ⟨760048, (some k6), none, .mv (.t k50)⟩,
    ⟨760049, (some k7), none, .mv (.t k52)⟩]
def c76_20 : AC := .reg r76_19
def r76_21 : List GI := [⟨760050, (some k53), none, .mv (.t k0)⟩,
    ⟨760051, (some k54), none, .nilc (.t k53)⟩,
    ⟨760052, (some k55), none, .fa 1 (.t k54)⟩,
    ⟨760053, (some k56), none, .load none (.t k55)⟩,
    ⟨760054, (some k57), none, .mv (.t k7)⟩,
    ⟨760055, (some k58), none, .ia 1 none (.t k56) (.t k57)⟩,
    ⟨760056, (some k59), none, .load none (.t k58)⟩,
    ⟨760057, (some k8), none, .mv (.t k59)⟩]
def c76_22 : AC := .reg r76_21
def r76_23 : List GI := [⟨760058, (some k60), none, .mv (.t k8)⟩,
    ⟨760059, (some k61), none, .ia 1 none (.t k60) (.c (.i .i64 (.ofNat 0)))⟩,
    ⟨760060, (some k62), none, .load none (.t k61)⟩,
    ⟨760061, (some k63), none, .mv (.t k3)⟩,
    ⟨760062, (some k64), none, .bin .eql 0 (.t k62) (.t k63)⟩]
def c76_24 : AC := .reg r76_23
def r76_25 : List GI := [⟨760063, (some k65), none, .mv (.t k8)⟩,
    ⟨760064, (some k66), none, .mv (.t k8)⟩,
    ⟨760065, (some k67), none, .mv (.t k8)⟩,
    ⟨760066, (some k68), none, .ia 1 none (.t k67) (.c (.i .i64 (.ofNat 1)))⟩,
    ⟨760067, (some k69), none, .load none (.t k68)⟩,
    ⟨760068, (some k70), none, .mv (.t k8)⟩,
    ⟨760069, (some k71), none, .ia 1 none (.t k70) (.c (.i .i64 (.ofNat 0)))⟩,
    ⟨760070, (some k72), none, .load none (.t k71)⟩,
    ⟨760071, (some k73), none, .ia 1 none (.t k65) (.c (.i .i64 (.ofNat 0)))⟩,
    ⟨760072, none, none, .store 1 (.t k73) (.t k69)⟩,
    ⟨760073, (some k74), none, .ia 1 none (.t k66) (.c (.i .i64 (.ofNat 1)))⟩,
    ⟨760074, none, none, .store 1 (.t k74) (.t k72)⟩]
def c76_26 : AC := .drw r76_25 [0, 0, 0, 4, 12, 0, 32, 96, 253, 509, 1023, 2047]
def c76_27 : AC := .cond (.t k64) c76_26 .skip
def c76_28 : AC := .seq c76_24 c76_27
def r76_29 : List GI := [⟨760075, (some k75), none, .mv (.t k0)⟩,
    ⟨760076, (some k76), none, .mv (.t k8)⟩,
    ⟨760077, (some k77), none, .ia 1 none (.t k76) (.c (.i .i64 (.ofNat 0)))⟩,
    ⟨760078, (some k78), none, .load none (.t k77)⟩,
    ⟨760079, (some k79), none, .call (.fn 62) [(.t k75), (.t k78)]⟩,
    ⟨760080, (some k80), none, .bin .eql 0 (.t k79) (.c (.i .i64 (.ofNat 1)))⟩]
def c76_30 : AC := .reg r76_29
def r76_31 : List GI := [⟨760081, (some k81), none, .mv (.t k4)⟩,
    ⟨760082, (some k82), none, .mv (.t k5)⟩,
    ⟨760083, (some k83), none, .mv (.t k7)⟩,
    ⟨760084, (some k84), none, .ia 1 none (.t k81) (.t k82)⟩,
    ⟨760085, none, none, .store 1 (.t k84) (.t k83)⟩]
def c76_32 : AC := .reg r76_31
def r76_33 : List GI := [⟨760086, (some k85), none, .mv (.t k5)⟩,
    ⟨760087, (some k86), none, .bin .add 0 (.t k85) (.c (.i .i64 (.ofNat 1)))⟩,
    ⟨760088, (some k5), none, .mv (.t k86)⟩]
def c76_34 : AC := .reg r76_33
def c76_35 : AC := .seq c76_34 (.exit 3)
def c76_36 : AC := .seq c76_32 c76_35
def c76_37 : AC := .cond (.t k80) c76_36 .skip
def c76_38 : AC := .seq c76_30 c76_37
def r76_39 : List GI := [⟨760089, (some k9), none, .mv (.c (.i .i64 (.ofNat 2)))⟩]
def c76_40 : AC := .reg r76_39
def r76_41 : List GI := [⟨760090, (some k87), none, .mv (.t k9)⟩,
    ⟨760091, (some k88), none, .mv (.t k8)⟩,
    ⟨760092, (some k89), none, .len 0 (.t k88)⟩,
    ⟨760093, (some k90), none, .bin .lss 0 (.t k87) (.t k89)⟩]
def c76_42 : AC := .reg r76_41
def c76_43 : AC := .cond (.t k90) .skip (.exit 4)
def c76_44 : AC := .seq c76_42 c76_43
def r76_45 : List GI := [⟨760094, (some k93), none, .mv (.t k0)⟩,
    ⟨760095, (some k94), none, .mv (.t k8)⟩,
    ⟨760096, (some k95), none, .mv (.t k9)⟩,
    ⟨760097, (some k96), none, .ia 1 none (.t k94) (.t k95)⟩,
    ⟨760098, (some k97), none, .load none (.t k96)⟩,
    ⟨760099, (some k98), none, .call (.fn 62) [(.t k93), (.t k97)]⟩,
    ⟨760100, (some k99), none, .bin .neq 0 (.t k98) (.c (.i .i64 (.negSucc 0)))⟩]
def c76_46 : AC := .reg r76_45
def r76_47 : List GI := [⟨760101, (some k100), none, .mv (.t k8)⟩,
    ⟨760102, (some k101), none, .mv (.t k8)⟩,
    ⟨760103, (some k102), none, .mv (.t k9)⟩,
    ⟨760104, (some k103), none, .mv (.t k8)⟩,
    ⟨760105, (some k104), none, .mv (.t k9)⟩,
    ⟨760106, (some k105), none, .ia 1 none (.t k103) (.t k104)⟩,
    ⟨760107, (some k106), none, .load none (.t k105)⟩,
    ⟨760108, (some k107), none, .mv (.t k8)⟩,
    ⟨760109, (some k108), none, .ia 1 none (.t k107) (.c (.i .i64 (.ofNat 1)))⟩,
    ⟨760110, (some k109), none, .load none (.t k108)⟩,
    ⟨760111, (some k110), none, .ia 1 none (.t k100) (.c (.i .i64 (.ofNat 1)))⟩,
    ⟨760112, none, none, .store 1 (.t k110) (.t k106)⟩,
    ⟨760113, (some k111), none, .ia 1 none (.t k101) (.t k102)⟩,
    ⟨760114, none, none, .store 1 (.t k111) (.t k109)⟩]
def c76_48 : AC := .drw r76_47 [0, 0, 0, 0, 0, 24, 56, 0, 128, 384, 1017, 2041, 4095, 8191]
def r76_49 : List GI := [⟨760115, (some k112), none, .mv (.t k0)⟩,
    ⟨760116, (some k113), none, .nilc (.t k112)⟩,
    ⟨760117, (some k114), none, .fa 2 (.t k113)⟩,
    ⟨760118, (some k115), none, .load none (.t k114)⟩,
    ⟨760119, (some k116), none, .mv (.t k8)⟩,
    ⟨760120, (some k117), none, .ia 1 none (.t k116) (.c (.i .i64 (.ofNat 1)))⟩,
    ⟨760121, (some k118), none, .load none (.t k117)⟩,
    ⟨760122, (some k119), none, .call (.fn 75) [(.t k118)]⟩,
    ⟨760123, (some k120), none, .mv (.t k0)⟩,
    ⟨760124, (some k121), none, .nilc (.t k120)⟩,
    ⟨760125, (some k122), none, .fa 2 (.t k121)⟩,
    ⟨760126, (some k123), none, .load none (.t k122)⟩,
    ⟨760127, (some k124), none, .mv (.t k8)⟩,
    ⟨760128, (some k125), none, .ia 1 none (.t k124) (.c (.i .i64 (.ofNat 1)))⟩,
    ⟨760129, (some k126), none, .load none (.t k125)⟩,
    ⟨760130, (some k127), none, .call (.fn 75) [(.t k126)]⟩,
    ⟨760131, (some k128), none, .ia 1 none (.t k123) (.t k127)⟩,
    ⟨760132, (some k129), none, .load none (.t k128)⟩,
    ⟨760133, (some k130), none, .mv (.t k7)⟩,
    ⟨760134, (some k131), none, .bsl 3 1 1 [(.i .i64 (.ofNat 0))] [(0, 1, (.t k130))]⟩,
    ⟨760135, (some k132), none, .app 3 1 (.t k129) (.t k131)⟩,
    ⟨760136, (some k133), none, .ia 1 none (.t k115) (.t k119)⟩,
    ⟨760137, none, none, .store 1 (.t k133) (.t k132)⟩]
def c76_50 : AC := .drw r76_49 [0, 1, 3, 7, 0, 16, 48, 112, 0, 256, 768, 1792, 0, 4096, 12288, 28912, 65520, 131056, 0, 262144, 1048560, 2097151, 4194303]
def c76_51 : AC := .seq c76_50 (.exit 3)
def c76_52 : AC := .seq c76_48 c76_51
def c76_53 : AC := .cond (.t k99) c76_52 .skip
def c76_54 : AC := .seq c76_46 c76_53
def c76_55 : AC := .blk 5 c76_54
def r76_56 : List GI := [⟨760138, (some k91), none, .mv (.t k9)⟩,
    ⟨760139, (some k92), none, .bin .add 0 (.t k91) (.c (.i .i64 (.ofNat 1)))⟩,
    ⟨760140, (some k9), none, .mv (.t k92)⟩]
def c76_57 : AC := .reg r76_56
def c76_58 : AC := .seq c76_55 c76_57
def c76_59 : AC := .seq c76_44 c76_58
def c76_60 : AC := .loop c76_59
def c76_61 : AC := .blk 4 c76_60
def c76_62 : AC := .seq c76_40 c76_61
def r76_63 : List GI := [⟨760141, (some k134), none, .mv (.t k4)⟩,
    ⟨760142, (some k135), none, .mv (.t k5)⟩,
    ⟨760143, (some k136), none, .mv (.t k7)⟩,
    ⟨760144, (some k137), none, .ia 1 none (.t k134) (.t k135)⟩,
    ⟨760145, none, none, .store 1 (.t k137) (.t k136)⟩]
def c76_64 : AC := .reg r76_63
def r76_65 : List GI := [⟨760146, (some k138), none, .mv (.t k5)⟩,
    ⟨760147, (some k139), none, .bin .add 0 (.t k138) (.c (.i .i64 (.ofNat 1)))⟩,
    ⟨760148, (some k5), none, .mv (.t k139)⟩]
def c76_66 : AC := .reg r76_65
def r76_67 : List GI := [⟨760149, (some k140), none, .mv (.t k0)⟩,
    ⟨760150, (some k141), none, .mv (.t k8)⟩,
    ⟨760151, (some k142), none, .ia 1 none (.t k141) (.c (.i .i64 (.ofNat 0)))⟩,
    ⟨760152, (some k143), none, .load none (.t k142)⟩,
    ⟨760153, (some k144), none, .call (.fn 62) [(.t k140), (.t k143)]⟩,
    ⟨760154, (some k145), none, .bin .eql 0 (.t k144) (.c (.i .i64 (.negSucc 0)))⟩]
def c76_68 : AC := .reg r76_67
def r76_69 : List GI := [⟨760155, (some k146), none, .mv (.t k5)⟩,
    ⟨760156, (some k147), none, .mv (.t k4)⟩,
    ⟨760157, (some k148), none, .mv (.t k5)⟩,
    ⟨760158, (some k149), none, .slice 1 (.t k147) (some (.t k148)) none none⟩,
    ⟨760159, (some k150), none, .mv (.t k4)⟩,
    ⟨760160, (some k151), none, .mv (.t k6)⟩,
    ⟨760161, (some k152), none, .bin .add 0 (.t k151) (.c (.i .i64 (.ofNat 1)))⟩,
    ⟨760162, (some k153), none, .slice 1 (.t k150) (some (.t k152)) none none⟩,
    ⟨760163, (some k154), none, .copy 1 (.t k149) (.t k153)⟩,
    ⟨760164, (some k155), none, .bin .add 0 (.t k146) (.t k154)⟩,
    ⟨760165, (some k5), none, .mv (.t k155)⟩]
def c76_70 : AC := .drw r76_69 [0, 0, 0, 6, 0, 0, 32, 112, 254, 511, 1023]
def r76_71 : List GI := [⟨760166, (some k156), none, .mv (.t k0)⟩,
    ⟨760167, (some k157), none, .nilc (.t k156)⟩,
    ⟨760168, (some k158), none, .fa 2 (.t k157)⟩,
    ⟨760169, (some k159), none, .load none (.t k158)⟩,
    ⟨760170, (some k160), none, .mv (.t k3)⟩,
    ⟨760171, (some k161), none, .call (.fn 75) [(.t k160)]⟩,
    ⟨760172, (some k162), none, .mv (.t k4)⟩,
    ⟨760173, (some k163), none, .mv (.t k5)⟩,
    ⟨760174, (some k164), none, .slice 1 (.t k162) none (some (.t k163)) none⟩,
    ⟨760175, (some k165), none, .ia 1 none (.t k159) (.t k161)⟩,
    ⟨760176, none, none, .store 1 (.t k165) (.t k164)⟩]
def c76_72 : AC := .drw r76_71 [0, 1, 3, 7, 0, 16, 0, 0, 192, 511, 1023]
def r76_73 : List GI := [⟨760177, (some k166), none, .mv (.t k7)⟩,
    ⟨760178, (some k2), none, .mv (.t k166)⟩]
def c76_74 : AC := .reg r76_73
def c76_75 : AC := .seq c76_74 .ret
def c76_76 : AC := .seq c76_72 c76_75
def c76_77 : AC := .seq c76_70 c76_76
def c76_78 : AC := .cond (.t k145) c76_77 .skip
def c76_79 : AC := .seq c76_68 c76_78
def r76_80 : List GI := [⟨760179, (some k167), none, .mv (.t k0)⟩,
    ⟨760180, (some k168), none, .mv (.t k8)⟩,
    ⟨760181, (some k169), none, .ia 1 none (.t k168) (.c (.i .i64 (.ofNat 0)))⟩,
    ⟨760182, (some k170), none, .load none (.t k169)⟩,
    ⟨760183, (some k171), none, .mv (.t k7)⟩,
    ⟨760184, (some k172), none, .call (.fn 63) [(.t k167), (.t k170), (.t k171)]⟩]
def c76_81 : AC := .reg r76_80
def c76_82 : AC := .seq c76_79 c76_81
def c76_83 : AC := .seq c76_66 c76_82
def c76_84 : AC := .seq c76_64 c76_83
def c76_85 : AC := .seq c76_62 c76_84
def c76_86 : AC := .seq c76_38 c76_85
def c76_87 : AC := .seq c76_28 c76_86
def c76_88 : AC := .seq c76_22 c76_87
def c76_89 : AC := .seq c76_20 c76_88
def c76_90 : AC := .blk 3 c76_89
def r76_91 : List GI := [⟨760185, (some k173), none, .bin .add 0 (.t k48) (.c (.i .i64 (.ofNat 1)))⟩,
    ⟨760186, (some k48), none, .mv (.t k173)⟩]
def c76_92 : AC := .reg r76_91
def c76_93 : AC := .seq c76_90 c76_92
def c76_94 : AC := .seq c76_18 c76_93
def c76_95 : AC := .seq c76_17 c76_94
def c76_96 : AC := .loop c76_95
def c76_97 : AC := .blk 2 c76_96
def c76_98 : AC := .seq c76_15 c76_97
def r76_99 : List GI := [⟨760187, (some k174), none, .mv (.t k0)⟩,
    ⟨760188, (some k175), none, .nilc (.t k174)⟩,
    ⟨760189, (some k176), none, .fa 2 (.t k175)⟩,
    ⟨760190, (some k177), none, .load none (.t k176)⟩,
    ⟨760191, (some k178), none, .mv (.t k3)⟩,
    ⟨760192, (some k179), none, .call (.fn 75) [(.t k178)]⟩,
    ⟨760193, (some k180), none, .mv (.t k4)⟩,
    ⟨760194, (some k181), none, .mv (.t k5)⟩,
    ⟨760195, (some k182), none, .slice 1 (.t k180) none (some (.t k181)) none⟩,
    ⟨760196, (some k183), none, .ia 1 none (.t k177) (.t k179)⟩,
    ⟨760197, none, none, .store 1 (.t k183) (.t k182)⟩]
def c76_100 : AC := .drw r76_99 [0, 1, 3, 7, 0, 16, 0, 0, 192, 511, 1023]
def c76_101 : AC := .seq c76_98 c76_100
def c76_102 : AC := .seq .label c76_101
def c76_103 : AC := .seq c76_13 c76_102
def c76_104 : AC := .seq c76_11 c76_103
def c76_105 : AC := .seq c76_9 c76_104
def c76_106 : AC := .seq c76_7 c76_105
def c76_107 : AC := .scope c76_106
def c76_108 : AC := .blk 1 c76_107
def c76_109 : AC := .seq c76_5 c76_108
def c76_110 : AC := .loop c76_109
def c76_111 : AC := .blk 0 c76_110
def r76_112 : List GI := [⟨760198, (some k2), none, .mv (.c (.i .i64 (.negSucc 0)))⟩]
def c76_113 : AC := .reg r76_112
def c76_114 : AC := .seq c76_113 .ret
def c76_115 : AC := .seq c76_111 c76_114
def c76_116 : AC := .seq c76_1 c76_115
def a76 : AFn := ⟨184, [.t k2],
  c76_116⟩
theorem ok76 : chkF prog 76 a76 = true := by kernel_rfl
def r77_0 : List GI := [⟨770000, (some k7), none, .mv (.t k0)⟩,
    ⟨770001, (some k8), none, .mv (.t k1)⟩,
    ⟨770002, (some k9), none, .call (.fn 81) [(.t k7), (.t k8)]⟩,
    ⟨770003, (some k6), none, .mv (.t k9)⟩,
    ⟨770004, (some k10), none, .ext 0 (.t k6)⟩,
    ⟨770005, (some k11), none, .ext 1 (.t k6)⟩,
    ⟨770006, (some k4), none, .mv (.t k10)⟩,
    ⟨770007, (some k5), none, .mv (.t k11)⟩]
def c77_1 : AC := .reg r77_0
def r77_2 : List GI := [⟨770008, (some k12), none, .mv (.t k0)⟩,
    ⟨770009, (some k13), none, .mv (.t k0)⟩,
    ⟨770010, (some k14), none, .nilc (.t k13)⟩,
    ⟨770011, (some k15), none, .fa 14 (.t k14)⟩,
    ⟨770012, (some k16), none, .load none (.t k15)⟩,
    ⟨770013, (some k17), none, .mv (.t k4)⟩,
    ⟨770014, (some k18), none, .call (.fn 19) [(.t k17)]⟩,
    ⟨770015, (some k19), none, .bsl 24 1 1 [.nils] [(0, 1, (.t k18))]⟩,
    ⟨770016, (some k20), none, .app 24 1 (.t k16) (.t k19)⟩,
    ⟨770017, (some k21), none, .nilc (.t k12)⟩,
    ⟨770018, (some k22), none, .fa 14 (.t k21)⟩,
    ⟨770019, none, none, .store 1 (.t k22) (.t k20)⟩]
def c77_3 : AC := .drw r77_2 [0, 0, 2, 6, 14, 0, 32, 96, 254, 511, 1023, 2047]
def r77_4 : List GI := [⟨770020, (some k23), none, .mv (.t k0)⟩,
    ⟨770021, (some k24), none, .mv (.t k5)⟩,
    ⟨770022, (some k25), none, .call (.fn 61) [(.t k23), (.t k24)]⟩]
def c77_5 : AC := .reg r77_4
def r77_6 : List GI := [⟨770023, (some k26), none, .mv (.t k4)⟩,
    ⟨770024, (some k27), none, .len 0 (.t k26)⟩,
    ⟨770025, (some k28), none, .bin .eql 0 (.t k27) (.c (.i .i64 (.ofNat 1)))⟩]
def c77_7 : AC := .reg r77_6
def r77_8 : List GI := [⟨770026, (some k29), none, .mv (.t k0)⟩,
    ⟨770027, (some k30), none, .mv (.t k4)⟩,
    ⟨770028, (some k31), none, .ia 1 none (.t k30) (.c (.i .i64 (.ofNat 0)))⟩,
    ⟨770029, (some k32), none, .load none (.t k31)⟩,
    ⟨770030, (some k33), none, .call (.fn 63) [(.t k29), (.t k32), (.c (.i .i64 (.negSucc 0)))]⟩]
def c77_9 : AC := .reg r77_8
def c77_10 : AC := .seq c77_9 .ret
def c77_11 : AC := .cond (.t k28) c77_10 .skip
def c77_12 : AC := .seq c77_7 c77_11
def r77_13 : List GI := [⟨770031, (some k34), none, .mv (.t k0)⟩,
    ⟨770032, (some k35), none, .mv (.t k4)⟩,
    ⟨770033, (some k36), none, .ia 1 none (.t k35) (.c (.i .i64 (.ofNat 0)))⟩,
    ⟨770034, (some k37), none, .load none (.t k36)⟩,
    ⟨770035, (some k38), none, .mv (.t k0)⟩,
    ⟨770036, (some k39), none, .mv (.t k4)⟩,
    ⟨770037, (some k40), none, .call (.fn 64) [(.t k38), (.t k39)]⟩,
    ⟨770038, (some k41), none, .call (.fn 63) [(.t k34), (.t k37), (.t k40)]⟩]
def c77_14 : AC := .drw r77_13 [0, 0, 2, 6, 0, 0, 48, 127]
def c77_15 : AC := .seq c77_12 c77_14
def c77_16 : AC := .seq c77_5 c77_15
def c77_17 : AC := .seq c77_3 c77_16
def c77_18 : AC := .seq c77_1 c77_17
def a77 : AFn := ⟨42, [],
  c77_18⟩
theorem ok77 : chkF prog 77 a77 = true := by kernel_rfl
def r78_0 : List GI := [⟨780000, (some k4), none, .mv (.c .nils)⟩]
def c78_1 : AC := .reg r78_0
def r78_2 : List GI := [⟨780001, (some k11), none, .mv (.t k1)⟩,
    ⟨780002, (some k12), none, .bsl 3 1 1 [(.i .i64 (.ofNat 0))] [(0, 1, (.t k11))]⟩,
    ⟨780003, (some k5), none, .mv (.t k12)⟩]
def c78_3 : AC := .reg r78_2
def r78_4 : List GI := [⟨780004, (some k13), none, .mkm⟩,
    ⟨780005, (some k14), none, .mv (.t k1)⟩,
    ⟨780006, (some k15), none, .call (.fn 74) [(.t k14)]⟩,
    ⟨780007, none, none, .mup (.t k13) (.t k15) (.c (.b true))⟩,
    ⟨780008, (some k16), none, .mv (.t k13)⟩,
    ⟨780009, (some k6), none, .mv (.t k16)⟩]
def c78_5 : AC := .reg r78_4
def r78_6 : List GI := [⟨780010, (some k17), none, .mv (.t k0)⟩,
    ⟨780011, (some k18), none, .nilc (.t k17)⟩,
    ⟨780012, (some k19), none, .fa 10 (.t k18)⟩,
    ⟨780013, (some k20), none, .load none (.t k19)⟩,
    ⟨780014, (some k21), none, .len 0 (.t k20)⟩,
    ⟨780015, (some k22), none, .bin .sub 0 (.t k21) (.c (.i .i64 (.ofNat 1)))⟩,
    ⟨780016, (some k7), none, .mv (.t k22)⟩]
def c78_7 : AC := .reg r78_6
def r78_8 : List GI := [⟨780017, (some k23), none, .mv (.t k7)⟩,
    ⟨780018, (some k24), none, .bin .geq 0 (.t k23) (.c (.i .i64 (.ofNat 0)))⟩,
    ⟨780019, (some k25), none, .mv (.t k24)⟩,
    ⟨780020, (some k26), (some (k25, true)), .mv (.t k0)⟩,
    ⟨780021, (some k27), (some (k25, true)), .nilc (.t k26)⟩,
    ⟨780022, (some k28), (some (k25, true)), .fa 11 (.t k27)⟩,
    ⟨780023, (some k29), (some (k25, true)), .load none (.t k28)⟩,
    ⟨780024, (some k30), (some (k25, true)), .len 0 (.t k29)⟩,
    ⟨780025, (some k31), (some (k25, true)), .bin .gtr 0 (.t k30) (.c (.i .i64 (.ofNat 0)))⟩,
    ⟨780026, (some k32), none, .pick (.t k25) (.t k31) (.c (.b false))⟩,
    ⟨780027, (some k33), none, .mv (.t k32)⟩,
    ⟨780028, (some k34), (some (k33, true)), .mv (.t k7)⟩,
    ⟨780029, (some k35), (some (k33, true)), .mv (.t k0)⟩,
    ⟨780030, (some k36), (some (k33, true)), .nilc (.t k35)⟩,
    ⟨780031, (some k37), (some (k33, true)), .fa 11 (.t k36)⟩,
    ⟨780032, (some k38), (some (k33, true)), .load none (.t k37)⟩,
    ⟨780033, (some k39), (some (k33, true)), .ia 1 none (.t k38) (.c (.i .i64 (.ofNat 0)))⟩,
    ⟨780034, (some k40), (some (k33, true)), .load none (.t k39)⟩,
    ⟨780035, (some k41), (some (k33, true)), .bin .geq 0 (.t k34) (.t k40)⟩,
    ⟨780036, (some k42), none, .pick (.t k33) (.t k41) (.c (.b false))⟩]
def c78_9 : AC := .reg r78_8
def c78_10 : AC := .cond (.t k42) .skip (.exit 0)
def c78_11 : AC := .seq c78_9 c78_10
def r78_12 : List GI := [⟨780037, (some k45), none, .mv (.t k0)⟩,
    ⟨780038, (some k46), none, .nilc (.t k45)⟩,
    ⟨780039, (some k47), none, .fa 10 (.t k46)⟩,
    ⟨780040, (some k48), none, .load none (.t k47)⟩,
    ⟨780041, (some k49), none, .mv (.t k7)⟩,
    ⟨780042, (some k50), none, .ia 1 none (.t k48) (.t k49)⟩,
    ⟨780043, (some k51), none, .load none (.t k50)⟩,
    ⟨780044, (some k8), none, .mv (.t k51)⟩]
def c78_13 : AC := .reg r78_12
def r78_14 : List GI := [⟨780045, (some k52), none, .mv (.t k6)⟩,
    ⟨780046, (some k53), none, .mv (.t k8)⟩,
    ⟨780047, (some k54), none, .call (.fn 74) [(.t k53)]⟩,
    ⟨780048, (some k55), none, .look (.b false) false (.t k52) (.t k54)⟩,
    ⟨780049, (some k56), none, .un .not (.t k55)⟩]
def c78_15 : AC := .reg r78_14
def c78_16 : AC := .cond (.t k56) (.exit 1) .skip
def c78_17 : AC := .seq c78_15 c78_16
def r78_18 : List GI := [⟨780050, (some k57), none, .mv (.t k0)⟩,
    ⟨780051, (some k58), none, .nilc (.t k57)⟩,
    ⟨780052, (some k59), none, .fa 5 (.t k58)⟩,
    ⟨780053, (some k60), none, .load none (.t k59)⟩,
    ⟨780054, (some k61), none, .mv (.t k8)⟩,
    ⟨780055, (some k62), none, .call (.fn 74) [(.t k61)]⟩,
    ⟨780056, (some k63), none, .ia 1 none (.t k60) (.t k62)⟩,
    ⟨780057, (some k64), none, .load none (.t k63)⟩,
    ⟨780058, (some k65), none, .bin .eql 0 (.t k64) (.c (.i .i64 (.negSucc 0)))⟩]
def c78_19 : AC := .drw r78_18 [0, 1, 3, 7, 0, 16, 63, 127, 255]
def r78_20 : List GI := [⟨780059, (some k66), none, .mv (.t k5)⟩,
    ⟨780060, (some k67), none, .mv (.t k8)⟩,
    ⟨780061, (some k68), none, .bsl 3 1 1 [(.i .i64 (.ofNat 0))] [(0, 1, (.t k67))]⟩,
    ⟨780062, (some k69), none, .app 3 1 (.t k66) (.t k68)⟩,
    ⟨780063, (some k5), none, .mv (.t k69)⟩]
def c78_21 : AC := .reg r78_20
def c78_22 : AC := .seq c78_21 (.exit 1)
def c78_23 : AC := .cond (.t k65) c78_22 .skip
def c78_24 : AC := .seq c78_19 c78_23
def r78_25 : List GI := [⟨780064, (some k70), none, .mv (.t k0)⟩,
    ⟨780065, (some k71), none, .nilc (.t k70)⟩,
    ⟨780066, (some k72), none, .fa 1 (.t k71)⟩,
    ⟨780067, (some k73), none, .load none (.t k72)⟩,
    ⟨780068, (some k74), none, .mv (.t k0)⟩,
    ⟨780069, (some k75), none, .nilc (.t k74)⟩,
    ⟨780070, (some k76), none, .fa 5 (.t k75)⟩,
    ⟨780071, (some k77), none, .load none (.t k76)⟩,
    ⟨780072, (some k78), none, .mv (.t k8)⟩,
    ⟨780073, (some k79), none, .call (.fn 74) [(.t k78)]⟩,
    ⟨780074, (some k80), none, .ia 1 none (.t k77) (.t k79)⟩,
    ⟨780075, (some k81), none, .load none (.t k80)⟩,
    ⟨780076, (some k82), none, .ia 1 none (.t k73) (.t k81)⟩,
    ⟨780077, (some k83), none, .load none (.t k82)⟩,
    ⟨780078, (some k84), none, .len 0 (.t k83)⟩,
    ⟨780079, (some k85), none, .mv (.c (.i .i64 (.ofNat 0)))⟩]
def c78_26 : AC := .drw r78_25 [0, 1, 3, 7, 0, 16, 48, 112, 0, 256, 1008, 2032, 4095, 8191, 16383, 0]
def r78_27 : List GI := [⟨780080, (some k86), none, .bin .lss 0 (.t k85) (.t k84)⟩]
def c78_28 : AC := .reg r78_27
def c78_29 : AC := .cond (.t k86) .skip (.exit 2)
def r78_30 : List GI := [⟨780081, (some k87), none, .ia 1 none (.t k83) (.t k85)⟩,
    ⟨780082, (some k88), none, .load none (.t k87)⟩,
    ⟨780083, (some k10), none, .mv (.t k88)⟩]
def c78_31 : AC := .reg r78_30
def r78_32 : List GI := [⟨780084, (some k89), none, .mv (.t k6)⟩,
    ⟨780085, (some k90), none, .mv (.t k10)⟩,
    ⟨780086, (some k91), none, .call (.fn 74) [(.t k90)]⟩,
    ⟨780087, none, none, .mup (.t k89) (.t k91) (.c (.b true))⟩]
def c78_33 : AC := .reg r78_32
def c78_34 : AC := .seq c78_31 c78_33
def c78_35 : AC := .blk 3 c78_34
def r78_36 : List GI := [⟨780088, (some k92), none, .bin .add 0 (.t k85) (.c (.i .i64 (.ofNat 1)))⟩,
    ⟨780089, (some k85), none, .mv (.t k92)⟩]
def c78_37 : AC := .reg r78_36
def c78_38 : AC := .seq c78_35 c78_37
def c78_39 : AC := .seq c78_29 c78_38
def c78_40 : AC := .seq c78_28 c78_39
def c78_41 : AC := .loop c78_40
def c78_42 : AC := .blk 2 c78_41
def c78_43 : AC := .seq c78_26 c78_42
def c78_44 : AC := .seq c78_24 c78_43
def c78_45 : AC := .seq c78_17 c78_44
def c78_46 : AC := .seq c78_13 c78_45
def c78_47 : AC := .blk 1 c78_46
def r78_48 : List GI := [⟨780090, (some k43), none, .mv (.t k7)⟩,
    ⟨780091, (some k44), none, .bin .sub 0 (.t k43) (.c (.i .i64 (.ofNat 1)))⟩,
    ⟨780092, (some k7), none, .mv (.t k44)⟩]
def c78_49 : AC := .reg r78_48
def c78_50 : AC := .seq c78_47 c78_49
def c78_51 : AC := .seq c78_11 c78_50
def c78_52 : AC := .loop c78_51
def c78_53 : AC := .blk 0 c78_52
def c78_54 : AC := .seq c78_7 c78_53
def r78_55 : List GI := [⟨780093, (some k93), none, .mv (.t k5)⟩,
    ⟨780094, (some k4), none, .mv (.t k93)⟩]
def c78_56 : AC := .reg r78_55
def c78_57 : AC := .seq c78_56 .ret
def c78_58 : AC := .seq c78_54 c78_57
def c78_59 : AC := .seq c78_5 c78_58
def c78_60 : AC := .seq c78_3 c78_59
def c78_61 : AC := .seq c78_1 c78_60
def a78 : AFn := ⟨94, [.t k4],
  c78_61⟩
theorem ok78 : chkF prog 78 a78 = true := by kernel_rfl
def r79_0 : List GI := [⟨790000, (some k2), none, .mv (.c (.i .i64 (.ofNat 0)))⟩]
def c79_1 : AC := .reg r79_0
def r79_2 : List GI := [⟨790001, (some k3), none, .mv (.c (.i .i64 (.ofNat 0)))⟩]
def c79_3 : AC := .reg r79_2
def r79_4 : List GI := [⟨790002, (some k6), none, .mv (.t k0)⟩,
    ⟨790003, (some k7), none, .nilc (.t k6)⟩,
    ⟨790004, (some k8), none, .fa 8 (.t k7)⟩,
    ⟨790005, (some k9), none, .load none (.t k8)⟩,
    ⟨790006, (some k10), none, .len 0 (.t k9)⟩,
    ⟨790007, (some k11), none, .mv (.c (.i .i64 (.ofNat 0)))⟩]
def c79_5 : AC := .reg r79_4
def r79_6 : List GI := [⟨790008, (some k12), none, .bin .lss 0 (.t k11) (.t k10)⟩]
def c79_7 : AC := .reg r79_6
def c79_8 : AC := .cond (.t k12) .skip (.exit 0)
def r79_9 : List GI := [⟨790009, (some k13), none, .ia 1 none (.t k9) (.t k11)⟩,
    ⟨790010, (some k14), none, .load none (.t k13)⟩,
    ⟨790011, (some k5), none, .mv (.t k14)⟩]
def c79_10 : AC := .reg r79_9
def r79_11 : List GI := [⟨790012, (some k15), none, .mv (.t k0)⟩,
    ⟨790013, (some k16), none, .nilc (.t k15)⟩,
    ⟨790014, (some k17), none, .fa 3 (.t k16)⟩,
    ⟨790015, (some k18), none, .load none (.t k17)⟩,
    ⟨790016, (some k19), none, .mv (.t k5)⟩,
    ⟨790017, (some k20), none, .ia 1 none (.t k18) (.t k19)⟩,
    ⟨790018, (some k21), none, .load none (.t k20)⟩,
    ⟨790019, (some k22), none, .bin .eql 0 (.t k21) (.c (.i .i64 (.ofNat 0)))⟩,
    ⟨790020, (some k23), none, .mv (.t k22)⟩,
    ⟨790021, (some k24), (some (k23, true)), .mv (.t k3)⟩,
    ⟨790022, (some k25), (some (k23, true)), .bin .eql 0 (.t k24) (.c (.i .i64 (.ofNat 0)))⟩,
    ⟨790023, (some k26), (some (k23, true)), .mv (.t k25)⟩,
    ⟨790024, (some k27), (some (k26, false)), .mv (.t k0)⟩,
    ⟨790025, (some k28), (some (k26, false)), .nilc (.t k27)⟩,
    ⟨790026, (some k29), (some (k26, false)), .fa 7 (.t k28)⟩,
    ⟨790027, (some k30), (some (k26, false)), .load none (.t k29)⟩,
    ⟨790028, (some k31), (some (k26, false)), .mv (.t k5)⟩,
    ⟨790029, (some k32), (some (k26, false)), .ia 1 none (.t k30) (.t k31)⟩,
    ⟨790030, (some k33), (some (k26, false)), .load none (.t k32)⟩,
    ⟨790031, (some k34), (some (k26, false)), .mv (.t k0)⟩,
    ⟨790032, (some k35), (some (k26, false)), .nilc (.t k34)⟩,
    ⟨790033, (some k36), (some (k26, false)), .fa 7 (.t k35)⟩,
    ⟨790034, (some k37), (some (k26, false)), .load none (.t k36)⟩,
    ⟨790035, (some k38), (some (k26, false)), .mv (.t k3)⟩,
    ⟨790036, (some k39), (some (k26, false)), .ia 1 none (.t k37) (.t k38)⟩,
    ⟨790037, (some k40), (some (k26, false)), .load none (.t k39)⟩,
    ⟨790038, (some k41), (some (k26, false)), .bin .gtr 0 (.t k33) (.t k40)⟩,
    ⟨790039, (some k42), (some (k23, true)), .pick (.t k26) (.c (.b true)) (.t k41)⟩,
    ⟨790040, (some k43), (some (k23, true)), .mv (.t k42)⟩,
    ⟨790041, (some k44), (some (k43, false)), .mv (.t k0)⟩,
    ⟨790042, (some k45), (some (k43, false)), .nilc (.t k44)⟩,
    ⟨790043, (some k46), (some (k43, false)), .fa 7 (.t k45)⟩,
    ⟨790044, (some k47), (some (k43, false)), .load none (.t k46)⟩,
    ⟨790045, (some k48), (some (k43, false)), .mv (.t k5)⟩,
    ⟨790046, (some k49), (some (k43, false)), .ia 1 none (.t k47) (.t k48)⟩,
    ⟨790047, (some k50), (some (k43, false)), .load none (.t k49)⟩,
    ⟨790048, (some k51), (some (k43, false)), .mv (.t k0)⟩,
    ⟨790049, (some k52), (some (k43, false)), .nilc (.t k51)⟩,
    ⟨790050, (some k53), (some (k43, false)), .fa 7 (.t k52)⟩,
    ⟨790051, (some k54), (some (k43, false)), .load none (.t k53)⟩,
    ⟨790052, (some k55), (some (k43, false)), .mv (.t k3)⟩,
    ⟨790053, (some k56), (some (k43, false)), .ia 1 none (.t k54) (.t k55)⟩,
    ⟨790054, (some k57), (some (k43, false)), .load none (.t k56)⟩,
    ⟨790055, (some k58), (some (k43, false)), .bin .eql 0 (.t k50) (.t k57)⟩,
    ⟨790056, (some k59), (some (k43, false)), .mv (.t k58)⟩,
    ⟨790057, (some k60), (some (k59, true)), .mv (.t k5)⟩,
    ⟨790058, (some k61), (some (k59, true)), .mv (.t k3)⟩,
    ⟨790059, (some k62), (some (k59, true)), .bin .lss 0 (.t k60) (.t k61)⟩,
    ⟨790060, (some k63), (some (k43, false)), .pick (.t k59) (.t k62) (.c (.b false))⟩,
    ⟨790061, (some k64), (some (k23, true)), .pick (.t k43) (.c (.b true)) (.t k63)⟩,
    ⟨790062, (some k65), none, .pick (.t k23) (.t k64) (.c (.b false))⟩]
def c79_12 : AC := .drw r79_11 [0, 1, 3, 7, 0, 31, 63, 127, 255, 511, 1023, 2047, 4095, 8191, 16383, 32767, 4095, 131071, 262143, 4095, 528383, 1576959, 3674111, 4095, 16257023, 33034239, 67108863, 134217727, 268435455, 536870911, 1073741823, 2147483647, 4294967295, 536870911, 17179869183, 34359738367, 536870911, 69256347647, 206695301119, 481573208063, 536870911, 2130840649727, 4329863905279, 8796093022207, 17592186044415, 35184372088831, 35184372088831, 140737488355327, 281474976710655, 562949953421311, 1125899906842623]
def r79_13 : List GI := [⟨790063, (some k66), none, .mv (.t k5)⟩,
    ⟨790064, (some k3), none, .mv (.t k66)⟩]
def c79_14 : AC := .reg r79_13
def c79_15 : AC := .cond (.t k65) c79_14 .skip
def c79_16 : AC := .seq c79_12 c79_15
def c79_17 : AC := .seq c79_10 c79_16
def c79_18 : AC := .blk 1 c79_17
def r79_19 : List GI := [⟨790065, (some k67), none, .bin .add 0 (.t k11) (.c (.i .i64 (.ofNat 1)))⟩,
    ⟨790066, (some k11), none, .mv (.t k67)⟩]
def c79_20 : AC := .reg r79_19
def c79_21 : AC := .seq c79_18 c79_20
def c79_22 : AC := .seq c79_8 c79_21
def c79_23 : AC := .seq c79_7 c79_22
def c79_24 : AC := .loop c79_23
def c79_25 : AC := .blk 0 c79_24
def c79_26 : AC := .seq c79_5 c79_25
def r79_27 : List GI := [⟨790067, (some k68), none, .mv (.t k3)⟩,
    ⟨790068, (some k69), none, .bin .eql 0 (.t k68) (.c (.i .i64 (.ofNat 0)))⟩,
    ⟨790069, (some k70), none, .mv (.t k69)⟩,
    ⟨790070, (some k71), (some (k70, true)), .mv (.t k0)⟩,
    ⟨790071, (some k72), (some (k70, true)), .nilc (.t k71)⟩,
    ⟨790072, (some k73), (some (k70, true)), .fa 9 (.t k72)⟩,
    ⟨790073, (some k74), (some (k70, true)), .load none (.t k73)⟩,
    ⟨790074, (some k75), (some (k70, true)), .mv (.t k0)⟩,
    ⟨790075, (some k76), (some (k70, true)), .nilc (.t k75)⟩,
    ⟨790076, (some k77), (some (k70, true)), .fa 0 (.t k76)⟩,
    ⟨790077, (some k78), (some (k70, true)), .load none (.t k77)⟩,
    ⟨790078, (some k79), (some (k70, true)), .bin .leq 0 (.t k74) (.t k78)⟩,
    ⟨790079, (some k80), none, .pick (.t k70) (.t k79) (.c (.b false))⟩]
def c79_28 : AC := .drw r79_27 [0, 1, 3, 7, 15, 31, 63, 7, 135, 391, 903, 2047, 4095]
def c79_29 : AC := .cond (.t k80) .skip (.exit 2)
def c79_30 : AC := .seq c79_28 c79_29
def r79_31 : List GI := [⟨790080, (some k88), none, .mv (.t k0)⟩,
    ⟨790081, (some k89), none, .nilc (.t k88)⟩,
    ⟨790082, (some k90), none, .fa 3 (.t k89)⟩,
    ⟨790083, (some k91), none, .load none (.t k90)⟩,
    ⟨790084, (some k92), none, .mv (.t k0)⟩,
    ⟨790085, (some k93), none, .nilc (.t k92)⟩,
    ⟨790086, (some k94), none, .fa 9 (.t k93)⟩,
    ⟨790087, (some k95), none, .load none (.t k94)⟩,
    ⟨790088, (some k96), none, .ia 1 none (.t k91) (.t k95)⟩,
    ⟨790089, (some k97), none, .load none (.t k96)⟩,
    ⟨790090, (some k98), none, .bin .eql 0 (.t k97) (.c (.i .i64 (.ofNat 0)))⟩,
    ⟨790091, (some k99), none, .mv (.t k98)⟩,
    ⟨790092, (some k100), (some (k99, true)), .mv (.t k0)⟩,
    ⟨790093, (some k101), (some (k99, true)), .nilc (.t k100)⟩,
    ⟨790094, (some k102), (some (k99, true)), .fa 7 (.t k101)⟩,
    ⟨790095, (some k103), (some (k99, true)), .load none (.t k102)⟩,
    ⟨790096, (some k104), (some (k99, true)), .mv (.t k0)⟩,
    ⟨790097, (some k105), (some (k99, true)), .nilc (.t k104)⟩,
    ⟨790098, (some k106), (some (k99, true)), .fa 9 (.t k105)⟩,
    ⟨790099, (some k107), (some (k99, true)), .load none (.t k106)⟩,
    ⟨790100, (some k108), (some (k99, true)), .ia 1 none (.t k103) (.t k107)⟩,
    ⟨790101, (some k109), (some (k99, true)), .load none (.t k108)⟩,
    ⟨790102, (some k110), (some (k99, true)), .bin .eql 0 (.t k109) (.c (.i .i64 (.ofNat 0)))⟩,
    ⟨790103, (some k111), none, .pick (.t k99) (.t k110) (.c (.b false))⟩]
def c79_32 : AC := .drw r79_31 [0, 1, 3, 7, 0, 16, 48, 112, 255, 511, 1023, 2047, 4095, 8191, 16383, 32767, 4095, 69631, 200703, 462847, 1048575, 2097151, 4194303, 8388607]
def r79_33 : List GI := [⟨790104, (some k112), none, .mv (.t k0)⟩,
    ⟨790105, (some k113), none, .nilc (.t k112)⟩,
    ⟨790106, (some k114), none, .fa 9 (.t k113)⟩,
    ⟨790107, (some k115), none, .load none (.t k114)⟩,
    ⟨790108, (some k3), none, .mv (.t k115)⟩]
def c79_34 : AC := .reg r79_33
def c79_35 : AC := .cond (.t k111) c79_34 .skip
def c79_36 : AC := .seq c79_32 c79_35
def c79_37 : AC := .blk 3 c79_36
def r79_38 : List GI := [⟨790109, (some k81), none, .mv (.t k0)⟩,
    ⟨790110, (some k82), none, .nilc (.t k81)⟩,
    ⟨790111, (some k83), none, .fa 9 (.t k82)⟩,
    ⟨790112, (some k84), none, .load none (.t k83)⟩,
    ⟨790113, (some k85), none, .bin .add 0 (.t k84) (.c (.i .i64 (.ofNat 1)))⟩,
    ⟨790114, (some k86), none, .nilc (.t k81)⟩,
    ⟨790115, (some k87), none, .fa 9 (.t k86)⟩,
    ⟨790116, none, none, .store 1 (.t k87) (.t k85)⟩]
def c79_39 : AC := .reg r79_38
def c79_40 : AC := .seq c79_37 c79_39
def c79_41 : AC := .seq c79_30 c79_40
def c79_42 : AC := .loop c79_41
def c79_43 : AC := .blk 2 c79_42
def r79_44 : List GI := [⟨790117, (some k116), none, .mv (.t k3)⟩,
    ⟨790118, (some k117), none, .bin .gtr 0 (.t k116) (.c (.i .i64 (.ofNat 0)))⟩,
    ⟨790119, (some k118), none, .mv (.t k117)⟩,
    ⟨790120, (some k119), (some (k118, true)), .mv (.t k0)⟩,
    ⟨790121, (some k120), (some (k118, true)), .nilc (.t k119)⟩,
    ⟨790122, (some k121), (some (k118, true)), .fa 6 (.t k120)⟩,
    ⟨790123, (some k122), (some (k118, true)), .load none (.t k121)⟩,
    ⟨790124, (some k123), (some (k118, true)), .mv (.t k3)⟩,
    ⟨790125, (some k124), (some (k118, true)), .ia 1 none (.t k122) (.t k123)⟩,
    ⟨790126, (some k125), (some (k118, true)), .load none (.t k124)⟩,
    ⟨790127, (some k126), (some (k118, true)), .bin .eql 0 (.t k125) (.c (.i .i64 (.ofNat 1)))⟩,
    ⟨790128, (some k127), none, .pick (.t k118) (.t k126) (.c (.b false))⟩]
def c79_45 : AC := .reg r79_44
def r79_46 : List GI := [⟨790129, (some k128), none, .mv (.t k3)⟩,
    ⟨790130, (some k2), none, .mv (.t k128)⟩]
def c79_47 : AC := .reg r79_46
def c79_48 : AC := .seq c79_47 .ret
def c79_49 : AC := .cond (.t k127) c79_48 .skip
def c79_50 : AC := .seq c79_45 c79_49
def r79_51 : List GI := [⟨790131, (some k129), none, .mv (.t k3)⟩,
    ⟨790132, (some k130), none, .un .neg (.t k129)⟩,
    ⟨790133, (some k2), none, .mv (.t k130)⟩]
def c79_52 : AC := .reg r79_51
def c79_53 : AC := .seq c79_52 .ret
def c79_54 : AC := .seq c79_50 c79_53
def c79_55 : AC := .seq c79_43 c79_54
def c79_56 : AC := .seq c79_26 c79_55
def c79_57 : AC := .seq c79_3 c79_56
def c79_58 : AC := .seq c79_1 c79_57
def a79 : AFn := ⟨131, [.t k2],
  c79_58⟩
theorem ok79 : chkF prog 79 a79 = true := by kernel_rfl
def r80_0 : List GI := [⟨800000, (some k10), none, .mv (.c (.i .i64 (.ofNat 0)))⟩,
    ⟨800001, (some k11), none, .mv (.c (.i .i64 (.ofNat 0)))⟩]
def c80_1 : AC := .reg r80_0
def r80_2 : List GI := [⟨800002, (some k12), none, .mv (.t k4)⟩,
    ⟨800003, (some k13), none, .mv (.t k0)⟩,
    ⟨800004, (some k14), none, .mv (.t k2)⟩,
    ⟨800005, (some k15), none, .ia 1 none (.t k13) (.t k14)⟩,
    ⟨800006, (some k16), none, .load none (.t k15)⟩,
    ⟨800007, (some k17), none, .mv (.t k0)⟩,
    ⟨800008, (some k18), none, .mv (.t k1)⟩,
    ⟨800009, (some k19), none, .ia 1 none (.t k17) (.t k18)⟩,
    ⟨800010, (some k20), none, .load none (.t k19)⟩,
    ⟨800011, (some k21), none, .call (.t k12) [(.t k16), (.t k20)]⟩,
    ⟨800012, (some k22), none, .bin .lss 0 (.t k21) (.c (.i .i64 (.ofNat 0)))⟩]
def c80_3 : AC := .drw r80_2 [0, 0, 0, 6, 14, 0, 0, 96, 224, 511, 1023]
def r80_4 : List GI := [⟨800013, (some k23), none, .mv (.t k3)⟩,
    ⟨800014, (some k24), none, .nilc (.t k23)⟩,
    ⟨800015, (some k25), none, .load none (.t k24)⟩,
    ⟨800016, (some k26), none, .bin .add 0 (.t k25) (.c (.i .i64 (.ofNat 1)))⟩,
    ⟨800017, (some k27), none, .nilc (.t k23)⟩,
    ⟨800018, none, none, .store 1 (.t k27) (.t k26)⟩]
def c80_5 : AC := .reg r80_4
def r80_6 : List GI := [⟨800019, (some k28), none, .mv (.t k2)⟩,
    ⟨800020, (some k29), none, .mv (.t k1)⟩,
    ⟨800021, (some k10), none, .mv (.t k28)⟩,
    ⟨800022, (some k11), none, .mv (.t k29)⟩]
def c80_7 : AC := .reg r80_6
def c80_8 : AC := .seq c80_7 .ret
def c80_9 : AC := .seq c80_5 c80_8
def c80_10 : AC := .cond (.t k22) c80_9 .skip
def c80_11 : AC := .seq c80_3 c80_10
def r80_12 : List GI := [⟨800023, (some k30), none, .mv (.t k1)⟩,
    ⟨800024, (some k31), none, .mv (.t k2)⟩,
    ⟨800025, (some k10), none, .mv (.t k30)⟩,
    ⟨800026, (some k11), none, .mv (.t k31)⟩]
def c80_13 : AC := .reg r80_12
def c80_14 : AC := .seq c80_13 .ret
def c80_15 : AC := .seq c80_11 c80_14
def c80_16 : AC := .seq c80_1 c80_15
def a80 : AFn := ⟨32, [.t k10, .t k11],
  c80_16⟩
theorem ok80 : chkF prog 80 a80 = true := by kernel_rfl
def r81_0 : List GI := [⟨810000, (some k4), none, .mv (.c .nils)⟩,
    ⟨810001, (some k5), none, .mv (.c (.i .i64 (.ofNat 0)))⟩]
def c81_1 : AC := .reg r81_0
def r81_2 : List GI := [⟨810002, (some k18), none, .mkm⟩,
    ⟨810003, (some k6), none, .mv (.t k18)⟩]
def c81_3 : AC := .reg r81_2
def r81_4 : List GI := [⟨810004, (some k19), none, .bsl 3 1 1 [(.i .i64 (.ofNat 0))] [(0, 1, (.c (.i .i64 (.ofNat 0))))]⟩,
    ⟨810005, (some k7), none, .mv (.t k19)⟩]
def c81_5 : AC := .reg r81_4
def r81_6 : List GI := [⟨810006, (some k20), none, .mv (.t k0)⟩,
    ⟨810007, (some k21), none, .nilc (.t k20)⟩,
    ⟨810008, (some k22), none, .fa 10 (.t k21)⟩,
    ⟨810009, (some k23), none, .load none (.t k22)⟩,
    ⟨810010, (some k24), none, .len 0 (.t k23)⟩,
    ⟨810011, (some k8), none, .mv (.c (.i .i64 (.ofNat 0)))⟩,
    ⟨810012, (some k9), none, .mv (.t k24)⟩]
def c81_7 : AC := .drw r81_6 [0, 1, 3, 7, 15, 0, 63]
def r81_8 : List GI := [⟨810013, (some k25), none, .mv (.t k0)⟩,
    ⟨810014, (some k26), none, .nilc (.t k25)⟩,
    ⟨810015, (some k27), none, .fa 1 (.t k26)⟩,
    ⟨810016, (some k28), none, .load none (.t k27)⟩,
    ⟨810017, (some k29), none, .mv (.t k1)⟩,
    ⟨810018, (some k30), none, .ia 1 none (.t k28) (.t k29)⟩,
    ⟨810019, (some k31), none, .load none (.t k30)⟩,
    ⟨810020, (some k10), none, .mv (.t k31)⟩]
def c81_9 : AC := .reg r81_8
def r81_10 : List GI := [⟨810021, (some k32), none, .mv (.t k10)⟩,
    ⟨810022, (some k33), none, .len 0 (.t k32)⟩,
    ⟨810023, (some k34), none, .mv (.c (.i .i64 (.ofNat 0)))⟩]
def c81_11 : AC := .reg r81_10
def r81_12 : List GI := [⟨810024, (some k35), none, .bin .lss 0 (.t k34) (.t k33)⟩]
def c81_13 : AC := .reg r81_12
def c81_14 : AC := .cond (.t k35) .skip (.exit 2)
def r81_15 : List GI := [⟨810025, (some k36), none, .ia 1 none (.t k32) (.t k34)⟩,
    ⟨810026, (some k37), none, .load none (.t k36)⟩,
    ⟨810027, (some k12), none, .mv (.t k37)⟩]
def c81_16 : AC := .reg r81_15
def r81_17 : List GI := [⟨810028, (some k38), none, .mv (.t k12)⟩,
    ⟨810029, (some k39), none, .call (.fn 74) [(.t k38)]⟩,
    ⟨810030, (some k13), none, .mv (.t k39)⟩]
def c81_18 : AC := .reg r81_17
def r81_19 : List GI := [⟨810031, (some k40), none, .mv (.t k6)⟩,
    ⟨810032, (some k41), none, .mv (.t k13)⟩,
    ⟨810033, (some k42), none, .look (.b false) false (.t k40) (.t k41)⟩,
    ⟨810034, (some k43), none, .mv (.t k42)⟩,
    ⟨810035, (some k44), (some (k43, false)), .mv (.t k0)⟩,
    ⟨810036, (some k45), (some (k43, false)), .mv (.t k12)⟩,
    ⟨810037, (some k46), (some (k43, false)), .call (.fn 62) [(.t k44), (.t k45)]⟩,
    ⟨810038, (some k47), (some (k43, false)), .bin .neq 0 (.t k46) (.c (.i .i64 (.negSucc 0)))⟩,
    ⟨810039, (some k48), none, .pick (.t k43) (.c (.b true)) (.t k47)⟩,
    ⟨810040, (some k49), none, .mv (.t k48)⟩,
    ⟨810041, (some k50), (some (k49, false)), .mv (.t k0)⟩,
    ⟨810042, (some k51), (some (k49, false)), .nilc (.t k50)⟩,
    ⟨810043, (some k52), (some (k49, false)), .fa 4 (.t k51)⟩,
    ⟨810044, (some k53), (some (k49, false)), .load none (.t k52)⟩,
    ⟨810045, (some k54), (some (k49, false)), .mv (.t k13)⟩,
    ⟨810046, (some k55), (some (k49, false)), .ia 1 none (.t k53) (.t k54)⟩,
    ⟨810047, (some k56), (some (k49, false)), .load none (.t k55)⟩,
    ⟨810048, (some k57), (some (k49, false)), .bin .eql 0 (.t k56) (.c (.i .i64 (.ofNat 0)))⟩,
    ⟨810049, (some k58), none, .pick (.t k49) (.c (.b true)) (.t k57)⟩]
def c81_20 : AC := .reg r81_19
def c81_21 : AC := .cond (.t k58) (.exit 3) .skip
def c81_22 : AC := .seq c81_20 c81_21
def r81_23 : List GI := [⟨810050, (some k59), none, .mv (.t k6)⟩,
    ⟨810051, (some k60), none, .mv (.t k13)⟩,
    ⟨810052, none, none, .mup (.t k59) (.t k60) (.c (.b true))⟩]
def c81_24 : AC := .reg r81_23
def r81_25 : List GI := [⟨810053, (some k61), none, .mv (.t k0)⟩,
    ⟨810054, (some k62), none, .nilc (.t k61)⟩,
    ⟨810055, (some k63), none, .fa 7 (.t k62)⟩,
    ⟨810056, (some k64), none, .load none (.t k63)⟩,
    ⟨810057, (some k65), none, .mv (.t k13)⟩,
    ⟨810058, (some k66), none, .ia 1 none (.t k64) (.t k65)⟩,
    ⟨810059, (some k67), none, .load none (.t k66)⟩,
    ⟨810060, (some k68), none, .bin .eql 0 (.t k67) (.c (.i .i64 (.ofNat 0)))⟩]
def c81_26 : AC := .reg r81_25
def r81_27 : List GI := [⟨810061, (some k69), none, .mv (.t k0)⟩,
    ⟨810062, (some k70), none, .mv (.t k0)⟩,
    ⟨810063, (some k71), none, .nilc (.t k70)⟩,
    ⟨810064, (some k72), none, .fa 8 (.t k71)⟩,
    ⟨810065, (some k73), none, .load none (.t k72)⟩,
    ⟨810066, (some k74), none, .mv (.t k13)⟩,
    ⟨810067, (some k75), none, .bsl 3 1 1 [(.i .i64 (.ofNat 0))] [(0, 1, (.t k74))]⟩,
    ⟨810068, (some k76), none, .app 3 1 (.t k73) (.t k75)⟩,
    ⟨810069, (some k77), none, .nilc (.t k69)⟩,
    ⟨810070, (some k78), none, .fa 8 (.t k77)⟩,
    ⟨810071, none, none, .store 1 (.t k78) (.t k76)⟩]
def c81_28 : AC := .reg r81_27
def c81_29 : AC := .cond (.t k68) c81_28 .skip
def c81_30 : AC := .seq c81_26 c81_29
def r81_31 : List GI := [⟨810072, (some k79), none, .mv (.t k0)⟩,
    ⟨810073, (some k80), none, .nilc (.t k79)⟩,
    ⟨810074, (some k81), none, .fa 7 (.t k80)⟩,
    ⟨810075, (some k82), none, .load none (.t k81)⟩,
    ⟨810076, (some k83), none, .mv (.t k13)⟩,
    ⟨810077, (some k84), none, .ia 1 none (.t k82) (.t k83)⟩,
    ⟨810078, (some k85), none, .load none (.t k84)⟩,
    ⟨810079, (some k86), none, .bin .add 0 (.t k85) (.c (.i .i64 (.ofNat 1)))⟩,
    ⟨810080, (some k87), none, .ia 1 none (.t k82) (.t k83)⟩,
    ⟨810081, none, none, .store 1 (.t k87) (.t k86)⟩]
def c81_32 : AC := .reg r81_31
def r81_33 : List GI := [⟨810082, (some k88), none, .mv (.t k0)⟩,
    ⟨810083, (some k89), none, .nilc (.t k88)⟩,
    ⟨810084, (some k90), none, .fa 4 (.t k89)⟩,
    ⟨810085, (some k91), none, .load none (.t k90)⟩,
    ⟨810086, (some k92), none, .mv (.t k13)⟩,
    ⟨810087, (some k93), none, .ia 1 none (.t k91) (.t k92)⟩,
    ⟨810088, (some k94), none, .load none (.t k93)⟩,
    ⟨810089, (some k95), none, .mv (.t k0)⟩,
    ⟨810090, (some k96), none, .nilc (.t k95)⟩,
    ⟨810091, (some k97), none, .fa 11 (.t k96)⟩,
    ⟨810092, (some k98), none, .load none (.t k97)⟩,
    ⟨810093, (some k99), none, .len 0 (.t k98)⟩,
    ⟨810094, (some k100), none, .bin .eql 0 (.t k94) (.t k99)⟩]
def c81_34 : AC := .drw r81_33 [0, 1, 3, 7, 0, 31, 63, 0, 128, 384, 896, 1920, 4095]
def r81_35 : List GI := [⟨810095, (some k101), none, .mv (.t k8)⟩,
    ⟨810096, (some k102), none, .bin .add 0 (.t k101) (.c (.i .i64 (.ofNat 1)))⟩,
    ⟨810097, (some k8), none, .mv (.t k102)⟩]
def c81_36 : AC := .reg r81_35
def c81_37 : AC := .seq c81_36 (.exit 3)
def c81_38 : AC := .cond (.t k100) c81_37 .skip
def c81_39 : AC := .seq c81_34 c81_38
def r81_40 : List GI := [⟨810098, (some k103), none, .mv (.t k7)⟩,
    ⟨810099, (some k104), none, .mv (.t k12)⟩,
    ⟨810100, (some k105), none, .bsl 3 1 1 [(.i .i64 (.ofNat 0))] [(0, 1, (.t k104))]⟩,
    ⟨810101, (some k106), none, .app 3 1 (.t k103) (.t k105)⟩,
    ⟨810102, (some k7), none, .mv (.t k106)⟩]
def c81_41 : AC := .reg r81_40
def c81_42 : AC := .seq c81_39 c81_41
def c81_43 : AC := .seq c81_32 c81_42
def c81_44 : AC := .seq c81_30 c81_43
def c81_45 : AC := .seq c81_24 c81_44
def c81_46 : AC := .seq c81_22 c81_45
def c81_47 : AC := .seq c81_18 c81_46
def c81_48 : AC := .seq c81_16 c81_47
def c81_49 : AC := .blk 3 c81_48
def r81_50 : List GI := [⟨810103, (some k107), none, .bin .add 0 (.t k34) (.c (.i .i64 (.ofNat 1)))⟩,
    ⟨810104, (some k34), none, .mv (.t k107)⟩]
def c81_51 : AC := .reg r81_50
def c81_52 : AC := .seq c81_49 c81_51
def c81_53 : AC := .seq c81_14 c81_52
def c81_54 : AC := .seq c81_13 c81_53
def c81_55 : AC := .loop c81_54
def c81_56 : AC := .blk 2 c81_55
def c81_57 : AC := .seq c81_11 c81_56
def r81_58 : List GI := [⟨810105, (some k108), none, .mv (.t k9)⟩,
    ⟨810106, (some k109), none, .bin .sub 0 (.t k108) (.c (.i .i64 (.ofNat 1)))⟩,
    ⟨810107, (some k9), none, .mv (.t k109)⟩]
def c81_59 : AC := .reg r81_58
def r81_60 : List GI := [⟨810108, (some k110), none, .mv (.t k6)⟩,
    ⟨810109, (some k111), none, .mv (.t k0)⟩,
    ⟨810110, (some k112), none, .nilc (.t k111)⟩,
    ⟨810111, (some k113), none, .fa 10 (.t k112)⟩,
    ⟨810112, (some k114), none, .load none (.t k113)⟩,
    ⟨810113, (some k115), none, .mv (.t k9)⟩,
    ⟨810114, (some k116), none, .ia 1 none (.t k114) (.t k115)⟩,
    ⟨810115, (some k117), none, .load none (.t k116)⟩,
    ⟨810116, (some k118), none, .call (.fn 74) [(.t k117)]⟩,
    ⟨810117, (some k119), none, .look (.b false) false (.t k110) (.t k118)⟩,
    ⟨810118, (some k120), none, .un .not (.t k119)⟩]
def c81_61 : AC := .reg r81_60
def c81_62 : AC := .cond (.t k120) .skip (.exit 4)
def c81_63 : AC := .seq c81_61 c81_62
def r81_64 : List GI := [⟨810119, (some k121), none, .mv (.t k9)⟩,
    ⟨810120, (some k122), none, .bin .sub 0 (.t k121) (.c (.i .i64 (.ofNat 1)))⟩,
    ⟨810121, (some k9), none, .mv (.t k122)⟩]
def c81_65 : AC := .reg r81_64
def c81_66 : AC := .blk 5 c81_65
def c81_67 : AC := .seq c81_63 c81_66
def c81_68 : AC := .loop c81_67
def c81_69 : AC := .blk 4 c81_68
def r81_70 : List GI := [⟨810122, (some k123), none, .mv (.t k0)⟩,
    ⟨810123, (some k124), none, .nilc (.t k123)⟩,
    ⟨810124, (some k125), none, .fa 10 (.t k124)⟩,
    ⟨810125, (some k126), none, .load none (.t k125)⟩,
    ⟨810126, (some k127), none, .mv (.t k9)⟩,
    ⟨810127, (some k128), none, .ia 1 none (.t k126) (.t k127)⟩,
    ⟨810128, (some k129), none, .load none (.t k128)⟩,
    ⟨810129, (some k14), none, .mv (.t k129)⟩]
def c81_71 : AC := .reg r81_70
def r81_72 : List GI := [⟨810130, (some k130), none, .mv (.t k8)⟩,
    ⟨810131, (some k131), none, .bin .sub 0 (.t k130) (.c (.i .i64 (.ofNat 1)))⟩,
    ⟨810132, (some k8), none, .mv (.t k131)⟩]
def c81_73 : AC := .reg r81_72
def r81_74 : List GI := [⟨810133, (some k132), none, .mv (.t k8)⟩,
    ⟨810134, (some k133), none, .bin .eql 0 (.t k132) (.c (.i .i64 (.ofNat 0)))⟩]
def c81_75 : AC := .reg r81_74
def r81_76 : List GI := [⟨810135, (some k134), none, .mv (.t k7)⟩,
    ⟨810136, (some k135), none, .mv (.t k14)⟩,
    ⟨810137, (some k136), none, .un .neg (.t k135)⟩,
    ⟨810138, (some k137), none, .ia 1 none (.t k134) (.c (.i .i64 (.ofNat 0)))⟩,
    ⟨810139, none, none, .store 1 (.t k137) (.t k136)⟩]
def c81_77 : AC := .reg r81_76
def c81_78 : AC := .seq c81_77 (.exit 0)
def c81_79 : AC := .cond (.t k133) c81_78 .skip
def c81_80 : AC := .seq c81_75 c81_79
def r81_81 : List GI := [⟨810140, (some k138), none, .mv (.t k0)⟩,
    ⟨810141, (some k139), none, .nilc (.t k138)⟩,
    ⟨810142, (some k140), none, .fa 1 (.t k139)⟩,
    ⟨810143, (some k141), none, .load none (.t k140)⟩,
    ⟨810144, (some k142), none, .mv (.t k0)⟩,
    ⟨810145, (some k143), none, .nilc (.t k142)⟩,
    ⟨810146, (some k144), none, .fa 5 (.t k143)⟩,
    ⟨810147, (some k145), none, .load none (.t k144)⟩,
    ⟨810148, (some k146), none, .mv (.t k14)⟩,
    ⟨810149, (some k147), none, .call (.fn 74) [(.t k146)]⟩,
    ⟨810150, (some k148), none, .ia 1 none (.t k145) (.t k147)⟩,
    ⟨810151, (some k149), none, .load none (.t k148)⟩,
    ⟨810152, (some k150), none, .ia 1 none (.t k141) (.t k149)⟩,
    ⟨810153, (some k151), none, .load none (.t k150)⟩,
    ⟨810154, (some k10), none, .mv (.t k151)⟩]
def c81_82 : AC := .drw r81_81 [0, 1, 3, 7, 0, 16, 48, 112, 0, 256, 1008, 2032, 4095, 8191, 16383]
def c81_83 : AC := .seq c81_80 c81_82
def c81_84 : AC := .seq c81_73 c81_83
def c81_85 : AC := .seq c81_71 c81_84
def c81_86 : AC := .seq c81_69 c81_85
def c81_87 : AC := .seq c81_59 c81_86
def c81_88 : AC := .seq c81_57 c81_87
def c81_89 : AC := .blk 1 c81_88
def c81_90 : AC := .loop c81_89
def c81_91 : AC := .blk 0 c81_90
def r81_92 : List GI := [⟨810155, (some k15), none, .mv (.c (.i .i64 (.ofNat 0)))⟩]
def c81_93 : AC := .reg r81_92
def r81_94 : List GI := [⟨810156, (some k16), none, .mv (.c (.i .i64 (.ofNat 1)))⟩]
def c81_95 : AC := .reg r81_94
def r81_96 : List GI := [⟨810157, (some k152), none, .mv (.t k16)⟩,
    ⟨810158, (some k153), none, .mv (.t k7)⟩,
    ⟨810159, (some k154), none, .len 0 (.t k153)⟩,
    ⟨810160, (some k155), none, .bin .lss 0 (.t k152) (.t k154)⟩]
def c81_97 : AC := .reg r81_96
def c81_98 : AC := .cond (.t k155) .skip (.exit 6)
def c81_99 : AC := .seq c81_97 c81_98
def r81_100 : List GI := [⟨810161, (some k158), none, .mv (.t k0)⟩,
    ⟨810162, (some k159), none, .nilc (.t k158)⟩,
    ⟨810163, (some k160), none, .fa 4 (.t k159)⟩,
    ⟨810164, (some k161), none, .load none (.t k160)⟩,
    ⟨810165, (some k162), none, .mv (.t k7)⟩,
    ⟨810166, (some k163), none, .mv (.t k16)⟩,
    ⟨810167, (some k164), none, .ia 1 none (.t k162) (.t k163)⟩,
    ⟨810168, (some k165), none, .load none (.t k164)⟩,
    ⟨810169, (some k166), none, .call (.fn 74) [(.t k165)]⟩,
    ⟨810170, (some k167), none, .ia 1 none (.t k161) (.t k166)⟩,
    ⟨810171, (some k168), none, .load none (.t k167)⟩,
    ⟨810172, (some k17), none, .mv (.t k168)⟩]
def c81_101 : AC := .drw r81_100 [0, 1, 3, 7, 0, 0, 48, 112, 240, 511, 1023, 2047]
def r81_102 : List GI := [⟨810173, (some k169), none, .mv (.t k17)⟩,
    ⟨810174, (some k170), none, .mv (.t k15)⟩,
    ⟨810175, (some k171), none, .bin .gtr 0 (.t k169) (.t k170)⟩]
def c81_103 : AC := .reg r81_102
def r81_104 : List GI := [⟨810176, (some k172), none, .mv (.t k17)⟩,
    ⟨810177, (some k15), none, .mv (.t k172)⟩]
def c81_105 : AC := .reg r81_104
def r81_106 : List GI := [⟨810178, (some k173), none, .mv (.t k7)⟩,
    ⟨810179, (some k174), none, .mv (.t k7)⟩,
    ⟨810180, (some k175), none, .mv (.t k16)⟩,
    ⟨810181, (some k176), none, .mv (.t k7)⟩,
    ⟨810182, (some k177), none, .mv (.t k16)⟩,
    ⟨810183, (some k178), none, .ia 1 none (.t k176) (.t k177)⟩,
    ⟨810184, (some k179), none, .load none (.t k178)⟩,
    ⟨810185, (some k180), none, .mv (.t k7)⟩,
    ⟨810186, (some k181), none, .ia 1 none (.t k180) (.c (.i .i64 (.ofNat 1)))⟩,
    ⟨810187, (some k182), none, .load none (.t k181)⟩,
    ⟨810188, (some k183), none, .ia 1 none (.t k173) (.c (.i .i64 (.ofNat 1)))⟩,
    ⟨810189, none, none, .store 1 (.t k183) (.t k179)⟩,
    ⟨810190, (some k184), none, .ia 1 none (.t k174) (.t k175)⟩,
    ⟨810191, none, none, .store 1 (.t k184) (.t k182)⟩]
def c81_107 : AC := .drw r81_106 [0, 0, 0, 0, 0, 24, 56, 0, 128, 384, 1017, 2041, 4095, 8191]
def c81_108 : AC := .seq c81_105 c81_107
def c81_109 : AC := .cond (.t k171) c81_108 .skip
def c81_110 : AC := .seq c81_103 c81_109
def c81_111 : AC := .seq c81_101 c81_110
def c81_112 : AC := .blk 7 c81_111
def r81_113 : List GI := [⟨810192, (some k156), none, .mv (.t k16)⟩,
    ⟨810193, (some k157), none, .bin .add 0 (.t k156) (.c (.i .i64 (.ofNat 1)))⟩,
    ⟨810194, (some k16), none, .mv (.t k157)⟩]
def c81_114 : AC := .reg r81_113
def c81_115 : AC := .seq c81_112 c81_114
def c81_116 : AC := .seq c81_99 c81_115
def c81_117 : AC := .loop c81_116
def c81_118 : AC := .blk 6 c81_117
def c81_119 : AC := .seq c81_95 c81_118
def r81_120 : List GI := [⟨810195, (some k185), none, .mv (.t k7)⟩,
    ⟨810196, (some k186), none, .mv (.t k15)⟩,
    ⟨810197, (some k4), none, .mv (.t k185)⟩,
    ⟨810198, (some k5), none, .mv (.t k186)⟩]
def c81_121 : AC := .reg r81_120
def c81_122 : AC := .seq c81_121 .ret
def c81_123 : AC := .seq c81_119 c81_122
def c81_124 : AC := .seq c81_93 c81_123
def c81_125 : AC := .seq c81_91 c81_124
def c81_126 : AC := .seq c81_9 c81_125
def c81_127 : AC := .seq c81_7 c81_126
def c81_128 : AC := .seq c81_5 c81_127
def c81_129 : AC := .seq c81_3 c81_128
def c81_130 : AC := .seq c81_1 c81_129
def a81 : AFn := ⟨187, [.t k4, .t k5],
  c81_130⟩
theorem ok81 : chkF prog 81 a81 = true := by kernel_rfl
def ft : FT := (.node 45 a45 (.node 26 a26 (.node 17 a17 (.node 11 a11 (.node 9 a9 (.node 7 a7 (.node 6 a6 .leaf .leaf) .leaf) (.node 10 a10 .leaf .leaf)) (.node 14 a14 (.node 13 a13 (.node 12 a12 .leaf .leaf) .leaf) (.node 16 a16 .leaf .leaf))) (.node 22 a22 (.node 20 a20 (.node 19 a19 (.node 18 a18 .leaf .leaf) .leaf) (.node 21 a21 .leaf .leaf)) (.node 24 a24 (.node 23 a23 .leaf .leaf) (.node 25 a25 .leaf .leaf)))) (.node 36 a36 (.node 31 a31 (.node 29 a29 (.node 28 a28 (.node 27 a27 .leaf .leaf) .leaf) (.node 30 a30 .leaf .leaf)) (.node 34 a34 (.node 33 a33 (.node 32 a32 .leaf .leaf) .leaf) (.node 35 a35 .leaf .leaf))) (.node 41 a41 (.node 39 a39 (.node 38 a38 (.node 37 a37 .leaf .leaf) .leaf) (.node 40 a40 .leaf .leaf)) (.node 43 a43 (.node 42 a42 .leaf .leaf) (.node 44 a44 .leaf .leaf))))) (.node 64 a64 (.node 55 a55 (.node 50 a50 (.node 48 a48 (.node 47 a47 (.node 46 a46 .leaf .leaf) .leaf) (.node 49 a49 .leaf .leaf)) (.node 53 a53 (.node 52 a52 (.node 51 a51 .leaf .leaf) .leaf) (.node 54 a54 .leaf .leaf))) (.node 60 a60 (.node 58 a58 (.node 57 a57 (.node 56 a56 .leaf .leaf) .leaf) (.node 59 a59 .leaf .leaf)) (.node 62 a62 (.node 61 a61 .leaf .leaf) (.node 63 a63 .leaf .leaf)))) (.node 73 a73 (.node 69 a69 (.node 67 a67 (.node 66 a66 (.node 65 a65 .leaf .leaf) .leaf) (.node 68 a68 .leaf .leaf)) (.node 71 a71 (.node 70 a70 .leaf .leaf) (.node 72 a72 .leaf .leaf))) (.node 78 a78 (.node 76 a76 (.node 75 a75 (.node 74 a74 .leaf .leaf) .leaf) (.node 77 a77 .leaf .leaf)) (.node 80 a80 (.node 79 a79 .leaf .leaf) (.node 81 a81 .leaf .leaf))))))
theorem ft_ok : FT.OK prog ft := (.node ok45 (.node ok26 (.node ok17 (.node ok11 (.node ok9 (.node ok7 (.node ok6 .leaf .leaf) .leaf) (.node ok10 .leaf .leaf)) (.node ok14 (.node ok13 (.node ok12 .leaf .leaf) .leaf) (.node ok16 .leaf .leaf))) (.node ok22 (.node ok20 (.node ok19 (.node ok18 .leaf .leaf) .leaf) (.node ok21 .leaf .leaf)) (.node ok24 (.node ok23 .leaf .leaf) (.node ok25 .leaf .leaf)))) (.node ok36 (.node ok31 (.node ok29 (.node ok28 (.node ok27 .leaf .leaf) .leaf) (.node ok30 .leaf .leaf)) (.node ok34 (.node ok33 (.node ok32 .leaf .leaf) .leaf) (.node ok35 .leaf .leaf))) (.node ok41 (.node ok39 (.node ok38 (.node ok37 .leaf .leaf) .leaf) (.node ok40 .leaf .leaf)) (.node ok43 (.node ok42 .leaf .leaf) (.node ok44 .leaf .leaf))))) (.node ok64 (.node ok55 (.node ok50 (.node ok48 (.node ok47 (.node ok46 .leaf .leaf) .leaf) (.node ok49 .leaf .leaf)) (.node ok53 (.node ok52 (.node ok51 .leaf .leaf) .leaf) (.node ok54 .leaf .leaf))) (.node ok60 (.node ok58 (.node ok57 (.node ok56 .leaf .leaf) .leaf) (.node ok59 .leaf .leaf)) (.node ok62 (.node ok61 .leaf .leaf) (.node ok63 .leaf .leaf)))) (.node ok73 (.node ok69 (.node ok67 (.node ok66 (.node ok65 .leaf .leaf) .leaf) (.node ok68 .leaf .leaf)) (.node ok71 (.node ok70 .leaf .leaf) (.node ok72 .leaf .leaf))) (.node ok78 (.node ok76 (.node ok75 (.node ok74 .leaf .leaf) .leaf) (.node ok77 .leaf .leaf)) (.node ok80 (.node ok79 .leaf .leaf) (.node ok81 .leaf .leaf))))))
theorem ftok : FTok prog ft.get := ft_ok.ftok
end Go.Ax.Try
