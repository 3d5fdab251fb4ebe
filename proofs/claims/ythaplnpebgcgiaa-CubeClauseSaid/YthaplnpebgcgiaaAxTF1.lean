/- MADE BY A PROGRAM (genax.py): the functions as AX has them. -/
import Derived.Test.YthaplnpebgcgiaaAxQ
import Derived.Test.YthaplnpebgcgiaaProg
namespace Go.Ax.Try
open Go Go.Ax
open Go.Proofs.Try (prog)
set_option maxRecDepth 100000
def k0 : K := []
def k1 : K := [false]
def k2 : K := [true]
def k3 : K := [false, false]
def k4 : K := [true, false]
def k5 : K := [false, true]
def k6 : K := [true, true]
def k7 : K := [false, false, false]
def k8 : K := [true, false, false]
def k9 : K := [false, true, false]
def k10 : K := [true, true, false]
def k11 : K := [false, false, true]
def k12 : K := [true, false, true]
def k13 : K := [false, true, true]
def k14 : K := [true, true, true]
def k15 : K := [false, false, false, false]
def k16 : K := [true, false, false, false]
def k17 : K := [false, true, false, false]
def k18 : K := [true, true, false, false]
def k19 : K := [false, false, true, false]
def k20 : K := [true, false, true, false]
def k21 : K := [false, true, true, false]
def k22 : K := [true, true, true, false]
def k23 : K := [false, false, false, true]
def k24 : K := [true, false, false, true]
def k25 : K := [false, true, false, true]
def k26 : K := [true, true, false, true]
def k27 : K := [false, false, true, true]
def k28 : K := [true, false, true, true]
def k29 : K := [false, true, true, true]
def k30 : K := [true, true, true, true]
def k31 : K := [false, false, false, false, false]
def k32 : K := [true, false, false, false, false]
def k33 : K := [false, true, false, false, false]
def k34 : K := [true, true, false, false, false]
def k35 : K := [false, false, true, false, false]
def k36 : K := [true, false, true, false, false]
def k37 : K := [false, true, true, false, false]
def k38 : K := [true, true, true, false, false]
def k39 : K := [false, false, false, true, false]
def k40 : K := [true, false, false, true, false]
def k41 : K := [false, true, false, true, false]
def k42 : K := [true, true, false, true, false]
def k43 : K := [false, false, true, true, false]
def k44 : K := [true, false, true, true, false]
def k45 : K := [false, true, true, true, false]
def k46 : K := [true, true, true, true, false]
def k47 : K := [false, false, false, false, true]
def k48 : K := [true, false, false, false, true]
def k49 : K := [false, true, false, false, true]
def k50 : K := [true, true, false, false, true]
def k51 : K := [false, false, true, false, true]
def k52 : K := [true, false, true, false, true]
def k53 : K := [false, true, true, false, true]
def k54 : K := [true, true, true, false, true]
def k55 : K := [false, false, false, true, true]
def k56 : K := [true, false, false, true, true]
def k57 : K := [false, true, false, true, true]
def k58 : K := [true, true, false, true, true]
def k59 : K := [false, false, true, true, true]
def k60 : K := [true, false, true, true, true]
def k61 : K := [false, true, true, true, true]
def k62 : K := [true, true, true, true, true]
def k63 : K := [false, false, false, false, false, false]
def k64 : K := [true, false, false, false, false, false]
def k65 : K := [false, true, false, false, false, false]
def k66 : K := [true, true, false, false, false, false]
def k67 : K := [false, false, true, false, false, false]
def k68 : K := [true, false, true, false, false, false]
def k69 : K := [false, true, true, false, false, false]
def k70 : K := [true, true, true, false, false, false]
def k71 : K := [false, false, false, true, false, false]
def k72 : K := [true, false, false, true, false, false]
def k73 : K := [false, true, false, true, false, false]
def k74 : K := [true, true, false, true, false, false]
def k75 : K := [false, false, true, true, false, false]
def k76 : K := [true, false, true, true, false, false]
def k77 : K := [false, true, true, true, false, false]
def k78 : K := [true, true, true, true, false, false]
def k79 : K := [false, false, false, false, true, false]
def k80 : K := [true, false, false, false, true, false]
def k81 : K := [false, true, false, false, true, false]
def k82 : K := [true, true, false, false, true, false]
def k83 : K := [false, false, true, false, true, false]
def k84 : K := [true, false, true, false, true, false]
def k85 : K := [false, true, true, false, true, false]
def k86 : K := [true, true, true, false, true, false]
def k87 : K := [false, false, false, true, true, false]
def k88 : K := [true, false, false, true, true, false]
def k89 : K := [false, true, false, true, true, false]
def k90 : K := [true, true, false, true, true, false]
def k91 : K := [false, false, true, true, true, false]
def k92 : K := [true, false, true, true, true, false]
def k93 : K := [false, true, true, true, true, false]
def k94 : K := [true, true, true, true, true, false]
def k95 : K := [false, false, false, false, false, true]
def k96 : K := [true, false, false, false, false, true]
def k97 : K := [false, true, false, false, false, true]
def k98 : K := [true, true, false, false, false, true]
def k99 : K := [false, false, true, false, false, true]
def k100 : K := [true, false, true, false, false, true]
def k101 : K := [false, true, true, false, false, true]
def k102 : K := [true, true, true, false, false, true]
def k103 : K := [false, false, false, true, false, true]
def k104 : K := [true, false, false, true, false, true]
def k105 : K := [false, true, false, true, false, true]
def k106 : K := [true, true, false, true, false, true]
def k107 : K := [false, false, true, true, false, true]
def k108 : K := [true, false, true, true, false, true]
def k109 : K := [false, true, true, true, false, true]
def k110 : K := [true, true, true, true, false, true]
def k111 : K := [false, false, false, false, true, true]
def k112 : K := [true, false, false, false, true, true]
def k113 : K := [false, true, false, false, true, true]
def k114 : K := [true, true, false, false, true, true]
def k115 : K := [false, false, true, false, true, true]
def k116 : K := [true, false, true, false, true, true]
def k117 : K := [false, true, true, false, true, true]
def k118 : K := [true, true, true, false, true, true]
def k119 : K := [false, false, false, true, true, true]
def k120 : K := [true, false, false, true, true, true]
def k121 : K := [false, true, false, true, true, true]
def k122 : K := [true, true, false, true, true, true]
def k123 : K := [false, false, true, true, true, true]
def k124 : K := [true, false, true, true, true, true]
def k125 : K := [false, true, true, true, true, true]
def k126 : K := [true, true, true, true, true, true]
def k127 : K := [false, false, false, false, false, false, false]
def k128 : K := [true, false, false, false, false, false, false]
def k129 : K := [false, true, false, false, false, false, false]
def k130 : K := [true, true, false, false, false, false, false]
def k131 : K := [false, false, true, false, false, false, false]
def k132 : K := [true, false, true, false, false, false, false]
def k133 : K := [false, true, true, false, false, false, false]
def k134 : K := [true, true, true, false, false, false, false]
def k135 : K := [false, false, false, true, false, false, false]
def k136 : K := [true, false, false, true, false, false, false]
def k137 : K := [false, true, false, true, false, false, false]
def k138 : K := [true, true, false, true, false, false, false]
def k139 : K := [false, false, true, true, false, false, false]
def k140 : K := [true, false, true, true, false, false, false]
def k141 : K := [false, true, true, true, false, false, false]
def k142 : K := [true, true, true, true, false, false, false]
def k143 : K := [false, false, false, false, true, false, false]
def k144 : K := [true, false, false, false, true, false, false]
def k145 : K := [false, true, false, false, true, false, false]
def k146 : K := [true, true, false, false, true, false, false]
def k147 : K := [false, false, true, false, true, false, false]
def k148 : K := [true, false, true, false, true, false, false]
def k149 : K := [false, true, true, false, true, false, false]
def k150 : K := [true, true, true, false, true, false, false]
def k151 : K := [false, false, false, true, true, false, false]
def k152 : K := [true, false, false, true, true, false, false]
def k153 : K := [false, true, false, true, true, false, false]
def k154 : K := [true, true, false, true, true, false, false]
def k155 : K := [false, false, true, true, true, false, false]
def k156 : K := [true, false, true, true, true, false, false]
def k157 : K := [false, true, true, true, true, false, false]
def k158 : K := [true, true, true, true, true, false, false]
def k159 : K := [false, false, false, false, false, true, false]
def k160 : K := [true, false, false, false, false, true, false]
def k161 : K := [false, true, false, false, false, true, false]
def k162 : K := [true, true, false, false, false, true, false]
def k163 : K := [false, false, true, false, false, true, false]
def k164 : K := [true, false, true, false, false, true, false]
def k165 : K := [false, true, true, false, false, true, false]
def k166 : K := [true, true, true, false, false, true, false]
def k167 : K := [false, false, false, true, false, true, false]
def k168 : K := [true, false, false, true, false, true, false]
def k169 : K := [false, true, false, true, false, true, false]
def k170 : K := [true, true, false, true, false, true, false]
def k171 : K := [false, false, true, true, false, true, false]
def k172 : K := [true, false, true, true, false, true, false]
def k173 : K := [false, true, true, true, false, true, false]
def k174 : K := [true, true, true, true, false, true, false]
def k175 : K := [false, false, false, false, true, true, false]
def k176 : K := [true, false, false, false, true, true, false]
def k177 : K := [false, true, false, false, true, true, false]
def k178 : K := [true, true, false, false, true, true, false]
def k179 : K := [false, false, true, false, true, true, false]
def k180 : K := [true, false, true, false, true, true, false]
def k181 : K := [false, true, true, false, true, true, false]
def k182 : K := [true, true, true, false, true, true, false]
def k183 : K := [false, false, false, true, true, true, false]
def k184 : K := [true, false, false, true, true, true, false]
def k185 : K := [false, true, false, true, true, true, false]
def k186 : K := [true, true, false, true, true, true, false]
def k187 : K := [false, false, true, true, true, true, false]
def r6_0 : List GI := [⟨60000, (some k0), none, .mv (.c (.b false))⟩]
def c6_1 : AC := .reg r6_0
def r6_2 : List GI := [⟨60001, (some k11), none, .bsl 3 1 3 [(.i .i64 (.ofNat 0)), (.i .i64 (.ofNat 0)), (.i .i64 (.ofNat 0))] [(0, 1, (.c (.i .i64 (.ofNat 3)))), (1, 1, (.c (.i .i64 (.negSucc 0)))), (2, 1, (.c (.i .i64 (.ofNat 3))))]⟩,
    ⟨60002, (some k12), none, .call (.fn 7) [(.t k11)]⟩,
    ⟨60003, (some k10), none, .mv (.t k12)⟩,
    ⟨60004, (some k13), none, .ext 0 (.t k10)⟩,
    ⟨60005, (some k14), none, .ext 1 (.t k10)⟩,
    ⟨60006, (some k1), none, .mv (.t k13)⟩,
    ⟨60007, (some k2), none, .mv (.t k14)⟩]
def c6_3 : AC := .reg r6_2
def r6_4 : List GI := [⟨60008, (some k16), none, .bsl 3 1 3 [(.i .i64 (.ofNat 0)), (.i .i64 (.ofNat 0)), (.i .i64 (.ofNat 0))] [(0, 1, (.c (.i .i64 (.ofNat 2)))), (1, 1, (.c (.i .i64 (.ofNat 1)))), (2, 1, (.c (.i .i64 (.negSucc 1))))]⟩,
    ⟨60009, (some k17), none, .call (.fn 7) [(.t k16)]⟩,
    ⟨60010, (some k15), none, .mv (.t k17)⟩,
    ⟨60011, (some k18), none, .ext 0 (.t k15)⟩,
    ⟨60012, (some k19), none, .ext 1 (.t k15)⟩,
    ⟨60013, (some k3), none, .mv (.t k18)⟩,
    ⟨60014, (some k4), none, .mv (.t k19)⟩]
def c6_5 : AC := .reg r6_4
def r6_6 : List GI := [⟨60015, (some k21), none, .bsl 3 1 1 [(.i .i64 (.ofNat 0))] [(0, 1, (.c (.i .i64 (.ofNat 0))))]⟩,
    ⟨60016, (some k22), none, .call (.fn 7) [(.t k21)]⟩,
    ⟨60017, (some k20), none, .mv (.t k22)⟩,
    ⟨60018, (some k23), none, .ext 0 (.t k20)⟩,
    ⟨60019, (some k24), none, .ext 1 (.t k20)⟩,
    ⟨60020, (some k5), none, .mv (.t k23)⟩,
    ⟨60021, (some k6), none, .mv (.t k24)⟩]
def c6_7 : AC := .reg r6_6
def r6_8 : List GI := [⟨60022, (some k25), none, .call (.fn 17) []⟩,
    ⟨60023, (some k26), none, .bsl 4 1 3 [(.b false), (.b false), (.b false)] [(0, 1, (.c (.b true))), (1, 1, (.c (.b false))), (2, 1, (.c (.b false)))]⟩,
    ⟨60024, (some k27), none, .bsl 4 1 1 [(.b false)] [(0, 1, (.c (.b true)))]⟩,
    ⟨60025, (some k28), none, .bsl 3 1 1 [(.i .i64 (.ofNat 0))] [(0, 1, (.c (.i .i64 (.ofNat 1))))]⟩,
    ⟨60026, (some k29), none, .call (.fn 16) [(.t k25), (.t k26), (.t k27), (.t k28), (.c (.i .i64 (.ofNat 0)))]⟩,
    ⟨60027, (some k7), none, .mv (.t k29)⟩]
def c6_9 : AC := .reg r6_8
def r6_10 : List GI := [⟨60028, (some k30), none, .call (.fn 17) []⟩,
    ⟨60029, (some k31), none, .bsl 4 1 3 [(.b false), (.b false), (.b false)] [(0, 1, (.c (.b true))), (1, 1, (.c (.b true))), (2, 1, (.c (.b false)))]⟩,
    ⟨60030, (some k32), none, .bsl 4 1 1 [(.b false)] [(0, 1, (.c (.b false)))]⟩,
    ⟨60031, (some k33), none, .call (.fn 16) [(.t k30), (.t k31), (.t k32), (.c .nils), (.c (.i .i64 (.ofNat 1)))]⟩,
    ⟨60032, (some k8), none, .mv (.t k33)⟩]
def c6_11 : AC := .reg r6_10
def r6_12 : List GI := [⟨60033, (some k34), none, .call (.fn 17) []⟩,
    ⟨60034, (some k35), none, .bsl 4 1 3 [(.b false), (.b false), (.b false)] [(0, 1, (.c (.b true))), (1, 1, (.c (.b true))), (2, 1, (.c (.b true)))]⟩,
    ⟨60035, (some k36), none, .bsl 4 1 1 [(.b false)] [(0, 1, (.c (.b false)))]⟩,
    ⟨60036, (some k37), none, .call (.fn 16) [(.t k34), (.t k35), (.t k36), (.c .nils), (.c (.i .i64 (.ofNat 0)))]⟩,
    ⟨60037, (some k9), none, .mv (.t k37)⟩]
def c6_13 : AC := .reg r6_12
def r6_14 : List GI := [⟨60038, (some k38), none, .mv (.t k2)⟩,
    ⟨60039, (some k39), none, .mv (.t k38)⟩,
    ⟨60040, (some k40), (some (k39, true)), .mv (.t k4)⟩,
    ⟨60041, (some k41), (some (k39, true)), .un .not (.t k40)⟩,
    ⟨60042, (some k42), none, .pick (.t k39) (.t k41) (.c (.b false))⟩,
    ⟨60043, (some k43), none, .mv (.t k42)⟩,
    ⟨60044, (some k44), (some (k43, true)), .mv (.t k6)⟩,
    ⟨60045, (some k45), (some (k43, true)), .un .not (.t k44)⟩,
    ⟨60046, (some k46), none, .pick (.t k43) (.t k45) (.c (.b false))⟩,
    ⟨60047, (some k47), none, .mv (.t k46)⟩,
    ⟨60048, (some k48), (some (k47, true)), .mv (.t k1)⟩,
    ⟨60049, (some k49), (some (k47, true)), .bsl 3 1 2 [(.i .i64 (.ofNat 0)), (.i .i64 (.ofNat 0))] [(0, 1, (.c (.i .i64 (.negSucc 0)))), (1, 1, (.c (.i .i64 (.ofNat 3))))]⟩,
    ⟨60050, (some k50), (some (k47, true)), .call (.fn 14) [(.t k48), (.t k49)]⟩,
    ⟨60051, (some k51), none, .pick (.t k47) (.t k50) (.c (.b false))⟩,
    ⟨60052, (some k52), none, .mv (.t k51)⟩,
    ⟨60053, (some k53), (some (k52, true)), .bsl 3 1 2 [(.i .i64 (.ofNat 0)), (.i .i64 (.ofNat 0))] [(0, 1, (.c (.i .i64 (.negSucc 0)))), (1, 1, (.c (.i .i64 (.ofNat 3))))]⟩,
    ⟨60054, (some k54), (some (k52, true)), .bsl 4 1 3 [(.b false), (.b false), (.b false)] [(0, 1, (.c (.b false))), (1, 1, (.c (.b false))), (2, 1, (.c (.b true)))]⟩,
    ⟨60055, (some k55), (some (k52, true)), .call (.fn 10) [(.t k53), (.t k54)]⟩,
    ⟨60056, (some k56), none, .pick (.t k52) (.t k55) (.c (.b false))⟩,
    ⟨60057, (some k57), none, .mv (.t k56)⟩,
    ⟨60058, (some k58), (some (k57, true)), .bsl 3 1 1 [(.i .i64 (.ofNat 0))] [(0, 1, (.c (.i .i64 (.ofNat 4))))]⟩,
    ⟨60059, (some k59), (some (k57, true)), .bsl 4 1 3 [(.b false), (.b false), (.b false)] [(0, 1, (.c (.b true))), (1, 1, (.c (.b true))), (2, 1, (.c (.b true)))]⟩,
    ⟨60060, (some k60), (some (k57, true)), .call (.fn 10) [(.t k58), (.t k59)]⟩,
    ⟨60061, (some k61), (some (k57, true)), .un .not (.t k60)⟩,
    ⟨60062, (some k62), none, .pick (.t k57) (.t k61) (.c (.b false))⟩,
    ⟨60063, (some k63), none, .mv (.t k62)⟩,
    ⟨60064, (some k64), (some (k63, true)), .bsl 3 1 1 [(.i .i64 (.ofNat 0))] [(0, 1, (.c (.i .i64 (.ofNat 3))))]⟩,
    ⟨60065, (some k65), (some (k63, true)), .bsl 3 1 2 [(.i .i64 (.ofNat 0)), (.i .i64 (.ofNat 0))] [(0, 1, (.c (.i .i64 (.negSucc 0)))), (1, 1, (.c (.i .i64 (.ofNat 3))))]⟩,
    ⟨60066, (some k66), (some (k63, true)), .call (.fn 11) [(.t k64), (.t k65)]⟩,
    ⟨60067, (some k67), none, .pick (.t k63) (.t k66) (.c (.b false))⟩,
    ⟨60068, (some k68), none, .mv (.t k67)⟩,
    ⟨60069, (some k69), (some (k68, true)), .bsl 3 1 2 [(.i .i64 (.ofNat 0)), (.i .i64 (.ofNat 0))] [(0, 1, (.c (.i .i64 (.negSucc 0)))), (1, 1, (.c (.i .i64 (.ofNat 3))))]⟩,
    ⟨60070, (some k70), (some (k68, true)), .bsl 3 1 1 [(.i .i64 (.ofNat 0))] [(0, 1, (.c (.i .i64 (.ofNat 3))))]⟩,
    ⟨60071, (some k71), (some (k68, true)), .call (.fn 11) [(.t k69), (.t k70)]⟩,
    ⟨60072, (some k72), (some (k68, true)), .un .not (.t k71)⟩,
    ⟨60073, (some k73), none, .pick (.t k68) (.t k72) (.c (.b false))⟩,
    ⟨60074, (some k74), none, .mv (.t k73)⟩,
    ⟨60075, (some k75), (some (k74, true)), .call (.fn 17) []⟩,
    ⟨60076, (some k76), (some (k74, true)), .bsl 3 1 2 [(.i .i64 (.ofNat 0)), (.i .i64 (.ofNat 0))] [(0, 1, (.c (.i .i64 (.ofNat 1)))), (1, 1, (.c (.i .i64 (.negSucc 2))))]⟩,
    ⟨60077, (some k77), (some (k74, true)), .call (.fn 18) [(.t k75), (.t k76)]⟩,
    ⟨60078, (some k78), none, .pick (.t k74) (.t k77) (.c (.b false))⟩,
    ⟨60079, (some k79), none, .mv (.t k78)⟩,
    ⟨60080, (some k80), (some (k79, true)), .call (.fn 17) []⟩,
    ⟨60081, (some k81), (some (k79, true)), .bsl 3 1 1 [(.i .i64 (.ofNat 0))] [(0, 1, (.c (.i .i64 (.ofNat 2))))]⟩,
    ⟨60082, (some k82), (some (k79, true)), .call (.fn 18) [(.t k80), (.t k81)]⟩,
    ⟨60083, (some k83), (some (k79, true)), .un .not (.t k82)⟩,
    ⟨60084, (some k84), none, .pick (.t k79) (.t k83) (.c (.b false))⟩,
    ⟨60085, (some k85), none, .mv (.t k84)⟩,
    ⟨60086, (some k86), (some (k85, true)), .bsl 4 1 2 [(.b false), (.b false)] [(0, 1, (.c (.b true))), (1, 1, (.c (.b false)))]⟩,
    ⟨60087, (some k87), (some (k85, true)), .call (.fn 13) [(.t k86)]⟩,
    ⟨60088, (some k88), (some (k85, true)), .bsl 3 1 2 [(.i .i64 (.ofNat 0)), (.i .i64 (.ofNat 0))] [(0, 1, (.c (.i .i64 (.ofNat 1)))), (1, 1, (.c (.i .i64 (.negSucc 1))))]⟩,
    ⟨60089, (some k89), (some (k85, true)), .call (.fn 14) [(.t k87), (.t k88)]⟩,
    ⟨60090, (some k90), none, .pick (.t k85) (.t k89) (.c (.b false))⟩,
    ⟨60091, (some k91), none, .mv (.t k90)⟩,
    ⟨60092, (some k92), (some (k91, true)), .bsl 3 1 2 [(.i .i64 (.ofNat 0)), (.i .i64 (.ofNat 0))] [(0, 1, (.c (.i .i64 (.ofNat 1)))), (1, 1, (.c (.i .i64 (.negSucc 1))))]⟩,
    ⟨60093, (some k93), (some (k91, true)), .call (.fn 12) [(.t k92)]⟩,
    ⟨60094, (some k94), (some (k91, true)), .bsl 3 1 2 [(.i .i64 (.ofNat 0)), (.i .i64 (.ofNat 0))] [(0, 1, (.c (.i .i64 (.negSucc 0)))), (1, 1, (.c (.i .i64 (.ofNat 2))))]⟩,
    ⟨60095, (some k95), (some (k91, true)), .call (.fn 14) [(.t k93), (.t k94)]⟩,
    ⟨60096, (some k96), none, .pick (.t k91) (.t k95) (.c (.b false))⟩,
    ⟨60097, (some k97), none, .mv (.t k96)⟩,
    ⟨60098, (some k98), (some (k97, true)), .mv (.t k7)⟩,
    ⟨60099, (some k99), (some (k97, true)), .len 0 (.t k98)⟩,
    ⟨60100, (some k100), (some (k97, true)), .bin .eql 0 (.t k99) (.c (.i .i64 (.ofNat 0)))⟩,
    ⟨60101, (some k101), none, .pick (.t k97) (.t k100) (.c (.b false))⟩,
    ⟨60102, (some k102), none, .mv (.t k101)⟩,
    ⟨60103, (some k103), (some (k102, true)), .mv (.t k8)⟩,
    ⟨60104, (some k104), (some (k102, true)), .bsl 3 1 2 [(.i .i64 (.ofNat 0)), (.i .i64 (.ofNat 0))] [(0, 1, (.c (.i .i64 (.ofNat 1)))), (1, 1, (.c (.i .i64 (.ofNat 2))))]⟩,
    ⟨60105, (some k105), (some (k102, true)), .call (.fn 14) [(.t k103), (.t k104)]⟩,
    ⟨60106, (some k106), none, .pick (.t k102) (.t k105) (.c (.b false))⟩,
    ⟨60107, (some k107), none, .mv (.t k106)⟩,
    ⟨60108, (some k108), (some (k107, true)), .mv (.t k9)⟩,
    ⟨60109, (some k109), (some (k107, true)), .bsl 3 1 2 [(.i .i64 (.ofNat 0)), (.i .i64 (.ofNat 0))] [(0, 1, (.c (.i .i64 (.ofNat 1)))), (1, 1, (.c (.i .i64 (.ofNat 3))))]⟩,
    ⟨60110, (some k110), (some (k107, true)), .call (.fn 14) [(.t k108), (.t k109)]⟩,
    ⟨60111, (some k111), none, .pick (.t k107) (.t k110) (.c (.b false))⟩,
    ⟨60112, (some k0), none, .mv (.t k111)⟩]
def c6_15 : AC := .reg r6_14
def c6_16 : AC := .seq c6_15 .ret
def c6_17 : AC := .seq c6_13 c6_16
def c6_18 : AC := .seq c6_11 c6_17
def c6_19 : AC := .seq c6_9 c6_18
def c6_20 : AC := .seq c6_7 c6_19
def c6_21 : AC := .seq c6_5 c6_20
def c6_22 : AC := .seq c6_3 c6_21
def c6_23 : AC := .seq c6_1 c6_22
def a6 : AFn := ⟨112, [.t k0],
  c6_23⟩
theorem ok6 : chkF prog 6 a6 = true := by kernel_rfl
def r7_0 : List GI := [⟨70000, (some k2), none, .mv (.c .nils)⟩,
    ⟨70001, (some k3), none, .mv (.c (.b false))⟩]
def c7_1 : AC := .reg r7_0
def r7_2 : List GI := [⟨70002, (some k7), none, .mv (.t k0)⟩,
    ⟨70003, (some k8), none, .call (.fn 19) [(.t k7)]⟩,
    ⟨70004, (some k4), none, .mv (.t k8)⟩]
def c7_3 : AC := .reg r7_2
def r7_4 : List GI := [⟨70005, (some k9), none, .mv (.t k4)⟩,
    ⟨70006, (some k10), none, .call (.fn 20) [(.t k9), (.fn 21)]⟩]
def c7_5 : AC := .reg r7_4
def r7_6 : List GI := [⟨70007, (some k11), none, .mv (.t k4)⟩,
    ⟨70008, (some k12), none, .call (.fn 25) [(.t k11)]⟩,
    ⟨70009, (some k4), none, .mv (.t k12)⟩]
def c7_7 : AC := .reg r7_6
def r7_8 : List GI := [⟨70010, (some k13), none, .mv (.t k4)⟩,
    ⟨70011, (some k14), none, .len 0 (.t k13)⟩,
    ⟨70012, (some k15), none, .mv (.c (.i .i64 (.ofNat 0)))⟩]
def c7_9 : AC := .reg r7_8
def r7_10 : List GI := [⟨70013, (some k16), none, .bin .lss 0 (.t k15) (.t k14)⟩]
def c7_11 : AC := .reg r7_10
def c7_12 : AC := .cond (.t k16) .skip (.exit 0)
def r7_13 : List GI := [⟨70014, (some k17), none, .mv (.t k15)⟩,
    ⟨70015, (some k18), none, .ia 1 none (.t k13) (.t k15)⟩,
    ⟨70016, (some k19), none, .load none (.t k18)⟩,
    ⟨70017, (some k5), none, .mv (.t k17)⟩,
    ⟨70018, (some k6), none, .mv (.t k19)⟩]
def c7_14 : AC := .reg r7_13
def r7_15 : List GI := [⟨70019, (some k20), none, .mv (.t k6)⟩,
    ⟨70020, (some k21), none, .call (.fn 24) [(.t k20)]⟩,
    ⟨70021, (some k22), none, .bin .leq 0 (.t k21) (.c (.i .i64 (.ofNat 0)))⟩,
    ⟨70022, (some k23), none, .mv (.t k22)⟩,
    ⟨70023, (some k24), (some (k23, false)), .mv (.t k5)⟩,
    ⟨70024, (some k25), (some (k23, false)), .bin .gtr 0 (.t k24) (.c (.i .i64 (.ofNat 0)))⟩,
    ⟨70025, (some k26), (some (k23, false)), .mv (.t k25)⟩,
    ⟨70026, (some k27), (some (k26, true)), .mv (.t k4)⟩,
    ⟨70027, (some k28), (some (k26, true)), .mv (.t k5)⟩,
    ⟨70028, (some k29), (some (k26, true)), .bin .sub 0 (.t k28) (.c (.i .i64 (.ofNat 1)))⟩,
    ⟨70029, (some k30), (some (k26, true)), .ia 1 none (.t k27) (.t k29)⟩,
    ⟨70030, (some k31), (some (k26, true)), .load none (.t k30)⟩,
    ⟨70031, (some k32), (some (k26, true)), .call (.fn 24) [(.t k31)]⟩,
    ⟨70032, (some k33), (some (k26, true)), .mv (.t k6)⟩,
    ⟨70033, (some k34), (some (k26, true)), .call (.fn 24) [(.t k33)]⟩,
    ⟨70034, (some k35), (some (k26, true)), .bin .eql 0 (.t k32) (.t k34)⟩,
    ⟨70035, (some k36), (some (k23, false)), .pick (.t k26) (.t k35) (.c (.b false))⟩,
    ⟨70036, (some k37), none, .pick (.t k23) (.c (.b true)) (.t k36)⟩]
def c7_16 : AC := .reg r7_15
def r7_17 : List GI := [⟨70037, (some k2), none, .mv (.c .nils)⟩,
    ⟨70038, (some k3), none, .mv (.c (.b false))⟩]
def c7_18 : AC := .reg r7_17
def c7_19 : AC := .seq c7_18 .ret
def c7_20 : AC := .cond (.t k37) c7_19 .skip
def c7_21 : AC := .seq c7_16 c7_20
def c7_22 : AC := .seq c7_14 c7_21
def c7_23 : AC := .blk 1 c7_22
def r7_24 : List GI := [⟨70039, (some k38), none, .bin .add 0 (.t k15) (.c (.i .i64 (.ofNat 1)))⟩,
    ⟨70040, (some k15), none, .mv (.t k38)⟩]
def c7_25 : AC := .reg r7_24
def c7_26 : AC := .seq c7_23 c7_25
def c7_27 : AC := .seq c7_12 c7_26
def c7_28 : AC := .seq c7_11 c7_27
def c7_29 : AC := .loop c7_28
def c7_30 : AC := .blk 0 c7_29
def c7_31 : AC := .seq c7_9 c7_30
def r7_32 : List GI := [⟨70041, (some k39), none, .mv (.t k4)⟩,
    ⟨70042, (some k2), none, .mv (.t k39)⟩,
    ⟨70043, (some k3), none, .mv (.c (.b true))⟩]
def c7_33 : AC := .reg r7_32
def c7_34 : AC := .seq c7_33 .ret
def c7_35 : AC := .seq c7_31 c7_34
def c7_36 : AC := .seq c7_7 c7_35
def c7_37 : AC := .seq c7_5 c7_36
def c7_38 : AC := .seq c7_3 c7_37
def c7_39 : AC := .seq c7_1 c7_38
def a7 : AFn := ⟨40, [.t k2, .t k3],
  c7_39⟩
theorem ok7 : chkF prog 7 a7 = true := by kernel_rfl
def r9_0 : List GI := [⟨90000, (some k4), none, .mv (.c .nils)⟩]
def c9_1 : AC := .reg r9_0
def r9_2 : List GI := [⟨90001, (some k5), none, .mv (.c .nils)⟩]
def c9_3 : AC := .reg r9_2
def r9_4 : List GI := [⟨90002, (some k6), none, .mv (.c (.i .i64 (.ofNat 0)))⟩]
def c9_5 : AC := .reg r9_4
def r9_6 : List GI := [⟨90003, (some k7), none, .mv (.t k6)⟩,
    ⟨90004, (some k8), none, .mv (.t k1)⟩,
    ⟨90005, (some k9), none, .bin .lss 0 (.t k7) (.t k8)⟩]
def c9_7 : AC := .reg r9_6
def c9_8 : AC := .cond (.t k9) .skip (.exit 0)
def c9_9 : AC := .seq c9_7 c9_8
def r9_10 : List GI := [⟨90006, (some k12), none, .mv (.t k5)⟩,
    ⟨90007, (some k13), none, .mv (.t k0)⟩,
    ⟨90008, (some k14), none, .mv (.t k6)⟩,
    ⟨90009, (some k15), none, .bin .shr 0 (.t k13) (.t k14)⟩,
    ⟨90010, (some k16), none, .bin .and 0 (.t k15) (.c (.i .i64 (.ofNat 1)))⟩,
    ⟨90011, (some k17), none, .bin .eql 0 (.t k16) (.c (.i .i64 (.ofNat 1)))⟩,
    ⟨90012, (some k18), none, .bsl 4 1 1 [(.b false)] [(0, 1, (.t k17))]⟩,
    ⟨90013, (some k19), none, .app 4 1 (.t k12) (.t k18)⟩,
    ⟨90014, (some k5), none, .mv (.t k19)⟩]
def c9_11 : AC := .reg r9_10
def c9_12 : AC := .blk 1 c9_11
def r9_13 : List GI := [⟨90015, (some k10), none, .mv (.t k6)⟩,
    ⟨90016, (some k11), none, .bin .add 0 (.t k10) (.c (.i .i64 (.ofNat 1)))⟩,
    ⟨90017, (some k6), none, .mv (.t k11)⟩]
def c9_14 : AC := .reg r9_13
def c9_15 : AC := .seq c9_12 c9_14
def c9_16 : AC := .seq c9_9 c9_15
def c9_17 : AC := .loop c9_16
def c9_18 : AC := .blk 0 c9_17
def c9_19 : AC := .seq c9_5 c9_18
def r9_20 : List GI := [⟨90018, (some k20), none, .mv (.t k5)⟩,
    ⟨90019, (some k4), none, .mv (.t k20)⟩]
def c9_21 : AC := .reg r9_20
def c9_22 : AC := .seq c9_21 .ret
def c9_23 : AC := .seq c9_19 c9_22
def c9_24 : AC := .seq c9_3 c9_23
def c9_25 : AC := .seq c9_1 c9_24
def a9 : AFn := ⟨21, [.t k4],
  c9_25⟩
theorem ok9 : chkF prog 9 a9 = true := by kernel_rfl
def r10_0 : List GI := [⟨100000, (some k3), none, .box 28 (.t k1)⟩,
    ⟨100001, (some k4), none, .mv (.c (.b false))⟩]
def c10_1 : AC := .reg r10_0
def r10_2 : List GI := [⟨100002, (some k5), none, .mv (.t k0)⟩,
    ⟨100003, (some k6), none, .mkf 27 [] [(.t k3)]⟩,
    ⟨100004, (some k7), none, .call (.fn 26) [(.t k5), (.t k6)]⟩,
    ⟨100005, (some k8), none, .un .not (.t k7)⟩,
    ⟨100006, (some k4), none, .mv (.t k8)⟩]
def c10_3 : AC := .reg r10_2
def c10_4 : AC := .seq c10_3 .ret
def c10_5 : AC := .seq c10_1 c10_4
def a10 : AFn := ⟨9, [.t k4],
  c10_5⟩
theorem ok10 : chkF prog 10 a10 = true := by kernel_rfl
def r11_0 : List GI := [⟨110000, (some k3), none, .box 24 (.t k1)⟩,
    ⟨110001, (some k4), none, .mv (.c (.b false))⟩]
def c11_1 : AC := .reg r11_0
def r11_2 : List GI := [⟨110002, (some k5), none, .mv (.t k0)⟩,
    ⟨110003, (some k6), none, .mkf 28 [] [(.t k3)]⟩,
    ⟨110004, (some k7), none, .call (.fn 26) [(.t k5), (.t k6)]⟩,
    ⟨110005, (some k8), none, .un .not (.t k7)⟩,
    ⟨110006, (some k4), none, .mv (.t k8)⟩]
def c11_3 : AC := .reg r11_2
def c11_4 : AC := .seq c11_3 .ret
def c11_5 : AC := .seq c11_1 c11_4
def a11 : AFn := ⟨9, [.t k4],
  c11_5⟩
theorem ok11 : chkF prog 11 a11 = true := by kernel_rfl
def r12_0 : List GI := [⟨120000, (some k2), none, .mv (.c .nils)⟩]
def c12_1 : AC := .reg r12_0
def r12_2 : List GI := [⟨120001, (some k3), none, .mv (.c .nils)⟩]
def c12_3 : AC := .reg r12_2
def r12_4 : List GI := [⟨120002, (some k6), none, .mv (.t k0)⟩,
    ⟨120003, (some k7), none, .len 0 (.t k6)⟩,
    ⟨120004, (some k8), none, .mv (.c (.i .i64 (.ofNat 0)))⟩]
def c12_5 : AC := .reg r12_4
def r12_6 : List GI := [⟨120005, (some k9), none, .bin .lss 0 (.t k8) (.t k7)⟩]
def c12_7 : AC := .reg r12_6
def c12_8 : AC := .cond (.t k9) .skip (.exit 0)
def r12_9 : List GI := [⟨120006, (some k10), none, .ia 1 none (.t k6) (.t k8)⟩,
    ⟨120007, (some k11), none, .load none (.t k10)⟩,
    ⟨120008, (some k5), none, .mv (.t k11)⟩]
def c12_10 : AC := .reg r12_9
def r12_11 : List GI := [⟨120009, (some k12), none, .mv (.t k3)⟩,
    ⟨120010, (some k13), none, .mv (.t k5)⟩,
    ⟨120011, (some k14), none, .un .neg (.t k13)⟩,
    ⟨120012, (some k15), none, .bsl 3 1 1 [(.i .i64 (.ofNat 0))] [(0, 1, (.t k14))]⟩,
    ⟨120013, (some k16), none, .app 3 1 (.t k12) (.t k15)⟩,
    ⟨120014, (some k3), none, .mv (.t k16)⟩]
def c12_12 : AC := .reg r12_11
def c12_13 : AC := .seq c12_10 c12_12
def c12_14 : AC := .blk 1 c12_13
def r12_15 : List GI := [⟨120015, (some k17), none, .bin .add 0 (.t k8) (.c (.i .i64 (.ofNat 1)))⟩,
    ⟨120016, (some k8), none, .mv (.t k17)⟩]
def c12_16 : AC := .reg r12_15
def c12_17 : AC := .seq c12_14 c12_16
def c12_18 : AC := .seq c12_8 c12_17
def c12_19 : AC := .seq c12_7 c12_18
def c12_20 : AC := .loop c12_19
def c12_21 : AC := .blk 0 c12_20
def c12_22 : AC := .seq c12_5 c12_21
def r12_23 : List GI := [⟨120017, (some k18), none, .mv (.t k3)⟩,
    ⟨120018, (some k2), none, .mv (.t k18)⟩]
def c12_24 : AC := .reg r12_23
def c12_25 : AC := .seq c12_24 .ret
def c12_26 : AC := .seq c12_22 c12_25
def c12_27 : AC := .seq c12_3 c12_26
def c12_28 : AC := .seq c12_1 c12_27
def a12 : AFn := ⟨19, [.t k2],
  c12_28⟩
theorem ok12 : chkF prog 12 a12 = true := by kernel_rfl
def r13_0 : List GI := [⟨130000, (some k2), none, .mv (.c .nils)⟩]
def c13_1 : AC := .reg r13_0
def r13_2 : List GI := [⟨130001, (some k3), none, .mv (.c .nils)⟩]
def c13_3 : AC := .reg r13_2
def r13_4 : List GI := [⟨130002, (some k6), none, .mv (.t k0)⟩,
    ⟨130003, (some k7), none, .len 0 (.t k6)⟩,
    ⟨130004, (some k8), none, .mv (.c (.i .i64 (.ofNat 0)))⟩]
def c13_5 : AC := .reg r13_4
def r13_6 : List GI := [⟨130005, (some k9), none, .bin .lss 0 (.t k8) (.t k7)⟩]
def c13_7 : AC := .reg r13_6
def c13_8 : AC := .cond (.t k9) .skip (.exit 0)
def r13_9 : List GI := [⟨130006, (some k10), none, .mv (.t k8)⟩,
    ⟨130007, (some k11), none, .ia 1 none (.t k6) (.t k8)⟩,
    ⟨130008, (some k12), none, .load none (.t k11)⟩,
    ⟨130009, (some k4), none, .mv (.t k10)⟩,
    ⟨130010, (some k5), none, .mv (.t k12)⟩]
def c13_10 : AC := .reg r13_9
def r13_11 : List GI := [⟨130011, (some k13), none, .mv (.t k5)⟩]
def c13_12 : AC := .reg r13_11
def r13_13 : List GI := [⟨130012, (some k14), none, .mv (.t k3)⟩,
    ⟨130013, (some k15), none, .mv (.t k4)⟩,
    ⟨130014, (some k16), none, .bin .add 0 (.t k15) (.c (.i .i64 (.ofNat 1)))⟩,
    ⟨130015, (some k17), none, .bsl 3 1 1 [(.i .i64 (.ofNat 0))] [(0, 1, (.t k16))]⟩,
    ⟨130016, (some k18), none, .app 3 1 (.t k14) (.t k17)⟩,
    ⟨130017, (some k3), none, .mv (.t k18)⟩]
def c13_14 : AC := .reg r13_13
def r13_15 : List GI := [⟨130018, (some k19), none, .mv (.t k3)⟩,
    ⟨130019, (some k20), none, .mv (.t k4)⟩,
    ⟨130020, (some k21), none, .un .neg (.t k20)⟩,
    ⟨130021, (some k22), none, .bin .sub 0 (.t k21) (.c (.i .i64 (.ofNat 1)))⟩,
    ⟨130022, (some k23), none, .bsl 3 1 1 [(.i .i64 (.ofNat 0))] [(0, 1, (.t k22))]⟩,
    ⟨130023, (some k24), none, .app 3 1 (.t k19) (.t k23)⟩,
    ⟨130024, (some k3), none, .mv (.t k24)⟩]
def c13_16 : AC := .reg r13_15
def c13_17 : AC := .cond (.t k13) c13_14 c13_16
def c13_18 : AC := .seq c13_12 c13_17
def c13_19 : AC := .seq c13_10 c13_18
def c13_20 : AC := .blk 1 c13_19
def r13_21 : List GI := [⟨130025, (some k25), none, .bin .add 0 (.t k8) (.c (.i .i64 (.ofNat 1)))⟩,
    ⟨130026, (some k8), none, .mv (.t k25)⟩]
def c13_22 : AC := .reg r13_21
def c13_23 : AC := .seq c13_20 c13_22
def c13_24 : AC := .seq c13_8 c13_23
def c13_25 : AC := .seq c13_7 c13_24
def c13_26 : AC := .loop c13_25
def c13_27 : AC := .blk 0 c13_26
def c13_28 : AC := .seq c13_5 c13_27
def r13_29 : List GI := [⟨130027, (some k26), none, .mv (.t k3)⟩,
    ⟨130028, (some k2), none, .mv (.t k26)⟩]
def c13_30 : AC := .reg r13_29
def c13_31 : AC := .seq c13_30 .ret
def c13_32 : AC := .seq c13_28 c13_31
def c13_33 : AC := .seq c13_3 c13_32
def c13_34 : AC := .seq c13_1 c13_33
def a13 : AFn := ⟨27, [.t k2],
  c13_34⟩
theorem ok13 : chkF prog 13 a13 = true := by kernel_rfl
def r14_0 : List GI := [⟨140000, (some k4), none, .mv (.c (.b false))⟩]
def c14_1 : AC := .reg r14_0
def r14_2 : List GI := [⟨140001, (some k6), none, .mv (.t k0)⟩,
    ⟨140002, (some k7), none, .len 0 (.t k6)⟩,
    ⟨140003, (some k8), none, .mv (.t k1)⟩,
    ⟨140004, (some k9), none, .len 0 (.t k8)⟩,
    ⟨140005, (some k10), none, .bin .neq 0 (.t k7) (.t k9)⟩]
def c14_3 : AC := .reg r14_2
def r14_4 : List GI := [⟨140006, (some k4), none, .mv (.c (.b false))⟩]
def c14_5 : AC := .reg r14_4
def c14_6 : AC := .seq c14_5 .ret
def c14_7 : AC := .cond (.t k10) c14_6 .skip
def c14_8 : AC := .seq c14_3 c14_7
def r14_9 : List GI := [⟨140007, (some k5), none, .mv (.c (.i .i64 (.ofNat 0)))⟩]
def c14_10 : AC := .reg r14_9
def r14_11 : List GI := [⟨140008, (some k11), none, .mv (.t k5)⟩,
    ⟨140009, (some k12), none, .mv (.t k0)⟩,
    ⟨140010, (some k13), none, .len 0 (.t k12)⟩,
    ⟨140011, (some k14), none, .bin .lss 0 (.t k11) (.t k13)⟩]
def c14_12 : AC := .reg r14_11
def c14_13 : AC := .cond (.t k14) .skip (.exit 0)
def c14_14 : AC := .seq c14_12 c14_13
def r14_15 : List GI := [⟨140012, (some k17), none, .mv (.t k0)⟩,
    ⟨140013, (some k18), none, .mv (.t k5)⟩,
    ⟨140014, (some k19), none, .ia 1 none (.t k17) (.t k18)⟩,
    ⟨140015, (some k20), none, .load none (.t k19)⟩,
    ⟨140016, (some k21), none, .mv (.t k1)⟩,
    ⟨140017, (some k22), none, .mv (.t k5)⟩,
    ⟨140018, (some k23), none, .ia 1 none (.t k21) (.t k22)⟩,
    ⟨140019, (some k24), none, .load none (.t k23)⟩,
    ⟨140020, (some k25), none, .bin .neq 0 (.t k20) (.t k24)⟩]
def c14_16 : AC := .drw r14_15 [0, 0, 3, 7, 0, 0, 48, 112, 255]
def r14_17 : List GI := [⟨140021, (some k4), none, .mv (.c (.b false))⟩]
def c14_18 : AC := .reg r14_17
def c14_19 : AC := .seq c14_18 .ret
def c14_20 : AC := .cond (.t k25) c14_19 .skip
def c14_21 : AC := .seq c14_16 c14_20
def c14_22 : AC := .blk 1 c14_21
def r14_23 : List GI := [⟨140022, (some k15), none, .mv (.t k5)⟩,
    ⟨140023, (some k16), none, .bin .add 0 (.t k15) (.c (.i .i64 (.ofNat 1)))⟩,
    ⟨140024, (some k5), none, .mv (.t k16)⟩]
def c14_24 : AC := .reg r14_23
def c14_25 : AC := .seq c14_22 c14_24
def c14_26 : AC := .seq c14_14 c14_25
def c14_27 : AC := .loop c14_26
def c14_28 : AC := .blk 0 c14_27
def c14_29 : AC := .seq c14_10 c14_28
def r14_30 : List GI := [⟨140025, (some k4), none, .mv (.c (.b true))⟩]
def c14_31 : AC := .reg r14_30
def c14_32 : AC := .seq c14_31 .ret
def c14_33 : AC := .seq c14_29 c14_32
def c14_34 : AC := .seq c14_8 c14_33
def c14_35 : AC := .seq c14_1 c14_34
def a14 : AFn := ⟨26, [.t k4],
  c14_35⟩
theorem ok14 : chkF prog 14 a14 = true := by kernel_rfl
def r16_0 : List GI := [⟨160000, (some k5), none, .box 46 (.t k0)⟩,
    ⟨160001, (some k10), none, .mv (.c .nils)⟩]
def c16_1 : AC := .reg r16_0
def r16_2 : List GI := [⟨160002, (some k15), none, .load (some 5) (.t k5)⟩,
    ⟨160003, (some k16), none, .mv (.t k2)⟩,
    ⟨160004, (some k17), none, .mv (.t k3)⟩,
    ⟨160005, (some k18), none, .mv (.t k4)⟩,
    ⟨160006, (some k19), none, .call (.fn 30) [(.t k15), (.t k16), (.t k17), (.t k18)]⟩,
    ⟨160007, (some k11), none, .new 59 [.nilp, (.i .i64 (.ofNat 0)), .nils, .nils, .nils, .nils, .nils]⟩,
    ⟨160008, none, none, .store 7 (.t k11) (.t k19)⟩]
def c16_3 : AC := .reg r16_2
def r16_4 : List GI := [⟨160009, (some k20), none, .mv (.t k1)⟩,
    ⟨160010, (some k21), none, .call (.fn 13) [(.t k20)]⟩,
    ⟨160011, (some k12), none, .mv (.t k21)⟩]
def c16_5 : AC := .reg r16_4
def r16_6 : List GI := [⟨160012, (some k22), none, .mv (.t k12)⟩,
    ⟨160013, (some k23), none, .len 0 (.t k22)⟩,
    ⟨160014, (some k24), none, .bin .sub 0 (.t k23) (.c (.i .i64 (.ofNat 1)))⟩,
    ⟨160015, (some k13), none, .mv (.t k24)⟩]
def c16_7 : AC := .reg r16_6
def r16_8 : List GI := [⟨160016, (some k25), none, .mv (.t k13)⟩,
    ⟨160017, (some k26), none, .bin .geq 0 (.t k25) (.c (.i .i64 (.ofNat 0)))⟩]
def c16_9 : AC := .reg r16_8
def c16_10 : AC := .cond (.t k26) .skip (.exit 0)
def c16_11 : AC := .seq c16_9 c16_10
def r16_12 : List GI := [⟨160018, (some k29), none, .mv (.t k12)⟩,
    ⟨160019, (some k30), none, .call (.fn 19) [(.t k29)]⟩,
    ⟨160020, (some k31), none, .mv (.t k13)⟩,
    ⟨160021, (some k32), none, .mv (.t k13)⟩,
    ⟨160022, (some k33), none, .bin .add 0 (.t k32) (.c (.i .i64 (.ofNat 1)))⟩,
    ⟨160023, (some k34), none, .call (.fn 31) [(.t k30), (.t k31), (.t k33)]⟩,
    ⟨160024, (some k14), none, .mv (.t k34)⟩]
def c16_13 : AC := .reg r16_12
def r16_14 : List GI := [⟨160025, (some k35), none, .load (some 7) (.t k11)⟩,
    ⟨160026, (some k36), none, .mv (.t k14)⟩,
    ⟨160027, (some k37), none, .call (.fn 32) [(.t k35), (.t k36)]⟩]
def c16_15 : AC := .reg r16_14
def r16_16 : List GI := [⟨160028, (some k38), none, .mv (.t k14)⟩,
    ⟨160029, (some k12), none, .mv (.t k38)⟩]
def c16_17 : AC := .reg r16_16
def c16_18 : AC := .cond (.t k37) c16_17 .skip
def c16_19 : AC := .seq c16_15 c16_18
def c16_20 : AC := .seq c16_13 c16_19
def c16_21 : AC := .blk 1 c16_20
def r16_22 : List GI := [⟨160030, (some k27), none, .mv (.t k13)⟩,
    ⟨160031, (some k28), none, .bin .sub 0 (.t k27) (.c (.i .i64 (.ofNat 1)))⟩,
    ⟨160032, (some k13), none, .mv (.t k28)⟩]
def c16_23 : AC := .reg r16_22
def c16_24 : AC := .seq c16_21 c16_23
def c16_25 : AC := .seq c16_11 c16_24
def c16_26 : AC := .loop c16_25
def c16_27 : AC := .blk 0 c16_26
def c16_28 : AC := .seq c16_7 c16_27
def r16_29 : List GI := [⟨160033, (some k39), none, .mv (.t k12)⟩,
    ⟨160034, (some k10), none, .mv (.t k39)⟩]
def c16_30 : AC := .reg r16_29
def c16_31 : AC := .seq c16_30 .ret
def c16_32 : AC := .seq c16_28 c16_31
def c16_33 : AC := .seq c16_5 c16_32
def c16_34 : AC := .seq c16_3 c16_33
def c16_35 : AC := .seq c16_1 c16_34
def a16 : AFn := ⟨40, [.t k10],
  c16_35⟩
theorem ok16 : chkF prog 16 a16 = true := by kernel_rfl
def r17_0 : List GI := [⟨170000, (some k0), none, .new 46 [(.i .i64 (.ofNat 0)), .nils, .nils, .nils, .nils]⟩]
def c17_1 : AC := .reg r17_0
def r17_2 : List GI := [⟨170001, (some k1), none, .build [(.i .i64 (.ofNat 0)), (.i .i64 (.ofNat 0))] [(0, 1, (.c (.i .i64 (.ofNat 4)))), (1, 1, (.c (.i .i64 (.ofNat 9))))]⟩,
    ⟨170002, (some k2), none, .build [(.i .i64 (.ofNat 0)), (.i .i64 (.ofNat 0))] [(0, 1, (.c (.i .i64 (.ofNat 3)))), (1, 1, (.c (.i .i64 (.ofNat 5))))]⟩,
    ⟨170003, (some k3), none, .bsl 63 2 2 [(.i .i64 (.ofNat 0)), (.i .i64 (.ofNat 0)), (.i .i64 (.ofNat 0)), (.i .i64 (.ofNat 0))] [(0, 2, (.t k1)), (2, 2, (.t k2))]⟩,
    ⟨170004, (some k4), none, .build [(.i .i64 (.ofNat 0)), .nils] [(0, 1, (.c (.i .i64 (.ofNat 4)))), (1, 1, (.t k3))]⟩,
    ⟨170005, (some k5), none, .build [(.i .i64 (.ofNat 0)), (.i .i64 (.ofNat 0)), (.i .i64 (.ofNat 0))] [(0, 1, (.c (.i .i64 (.ofNat 1)))), (1, 1, (.c (.i .i64 (.ofNat 0)))), (2, 1, (.c (.i .i64 (.ofNat 0))))]⟩,
    ⟨170006, (some k6), none, .bsl 64 3 1 [(.i .i64 (.ofNat 0)), (.i .i64 (.ofNat 0)), (.i .i64 (.ofNat 0))] [(0, 3, (.t k5))]⟩,
    ⟨170007, (some k7), none, .build [(.i .i64 (.ofNat 0)), (.i .i64 (.ofNat 0)), (.b false), (.i .i64 (.ofNat 0)), (.i .i64 (.ofNat 0))] [(0, 1, (.c (.i .i64 (.ofNat 2)))), (1, 1, (.c (.i .i64 (.ofNat 2)))), (2, 1, (.c (.b true))), (3, 1, (.c (.i .i64 (.ofNat 0))))]⟩,
    ⟨170008, (some k8), none, .build [(.i .i64 (.ofNat 0)), (.i .i64 (.ofNat 0)), (.b false), (.i .i64 (.ofNat 0)), (.i .i64 (.ofNat 0))] [(0, 1, (.c (.i .i64 (.ofNat 3)))), (1, 1, (.c (.i .i64 (.ofNat 7)))), (3, 1, (.c (.i .i64 (.ofNat 1))))]⟩,
    ⟨170009, (some k9), none, .build [(.i .i64 (.ofNat 0)), (.i .i64 (.ofNat 0)), (.b false), (.i .i64 (.ofNat 0)), (.i .i64 (.ofNat 0))] [(0, 1, (.c (.i .i64 (.ofNat 4)))), (1, 1, (.c (.i .i64 (.ofNat 0)))), (3, 1, (.c (.i .i64 (.ofNat 2))))]⟩,
    ⟨170010, (some k10), none, .bsl 66 5 3 [(.i .i64 (.ofNat 0)), (.i .i64 (.ofNat 0)), (.b false), (.i .i64 (.ofNat 0)), (.i .i64 (.ofNat 0)), (.i .i64 (.ofNat 0)), (.i .i64 (.ofNat 0)), (.b false), (.i .i64 (.ofNat 0)), (.i .i64 (.ofNat 0)), (.i .i64 (.ofNat 0)), (.i .i64 (.ofNat 0)), (.b false), (.i .i64 (.ofNat 0)), (.i .i64 (.ofNat 0))] [(0, 5, (.t k7)), (5, 5, (.t k8)), (10, 5, (.t k9))]⟩,
    ⟨170011, (some k11), none, .build [(.i .i64 (.ofNat 0)), (.i .i64 (.ofNat 0)), (.i .i64 (.ofNat 0))] [(0, 1, (.c (.i .i64 (.ofNat 8)))), (1, 1, (.c (.i .i64 (.ofNat 10)))), (2, 1, (.c (.i .i64 (.ofNat 0))))]⟩,
    ⟨170012, (some k12), none, .build [(.i .i64 (.ofNat 0)), (.i .i64 (.ofNat 0)), (.i .i64 (.ofNat 0))] [(0, 1, (.c (.i .i64 (.ofNat 10)))), (1, 1, (.c (.i .i64 (.ofNat 6)))), (2, 1, (.c (.i .i64 (.ofNat 1))))]⟩,
    ⟨170013, (some k13), none, .build [(.i .i64 (.ofNat 0)), (.i .i64 (.ofNat 0)), (.i .i64 (.ofNat 0))] [(0, 1, (.c (.i .i64 (.ofNat 9)))), (1, 1, (.c (.i .i64 (.ofNat 13)))), (2, 1, (.c (.i .i64 (.ofNat 2))))]⟩,
    ⟨170014, (some k14), none, .bsl 68 3 3 [(.i .i64 (.ofNat 0)), (.i .i64 (.ofNat 0)), (.i .i64 (.ofNat 0)), (.i .i64 (.ofNat 0)), (.i .i64 (.ofNat 0)), (.i .i64 (.ofNat 0)), (.i .i64 (.ofNat 0)), (.i .i64 (.ofNat 0)), (.i .i64 (.ofNat 0))] [(0, 3, (.t k11)), (3, 3, (.t k12)), (6, 3, (.t k13))]⟩,
    ⟨170015, (some k15), none, .build [(.i .i64 (.ofNat 0)), .nils, .nils, .nils, .nils] [(0, 2, (.t k4)), (2, 1, (.t k6)), (3, 1, (.t k10)), (4, 1, (.t k14))]⟩,
    ⟨170016, none, none, .store 5 (.t k0) (.t k15)⟩]
def c17_3 : AC := .reg r17_2
def c17_4 : AC := .seq c17_3 .ret
def c17_5 : AC := .seq c17_1 c17_4
def a17 : AFn := ⟨16, [.cell k0 (some 5)],
  c17_5⟩
theorem ok17 : chkF prog 17 a17 = true := by kernel_rfl
def r18_0 : List GI := [⟨180000, (some k2), none, .box 46 (.t k0)⟩,
    ⟨180001, (some k4), none, .mv (.c (.b false))⟩]
def c18_1 : AC := .reg r18_0
def r18_2 : List GI := [⟨180002, (some k5), none, .mv (.t k1)⟩,
    ⟨180003, (some k6), none, .load (some 5) (.t k2)⟩,
    ⟨180004, (some k7), none, .call (.fn 33) [(.t k6)]⟩,
    ⟨180005, (some k8), none, .call (.fn 10) [(.t k5), (.t k7)]⟩,
    ⟨180006, (some k4), none, .mv (.t k8)⟩]
def c18_3 : AC := .reg r18_2
def c18_4 : AC := .seq c18_3 .ret
def c18_5 : AC := .seq c18_1 c18_4
def a18 : AFn := ⟨9, [.t k4],
  c18_5⟩
theorem ok18 : chkF prog 18 a18 = true := by kernel_rfl
def r19_0 : List GI := [⟨190000, (some k2), none, .mv (.c .nils)⟩]
def c19_1 : AC := .reg r19_0
def r19_2 : List GI := [⟨190001, (some k3), none, .mv (.t k0)⟩,
    ⟨190002, (some k4), none, .bin .eql 3 (.t k3) (.c .nils)⟩]
def c19_3 : AC := .reg r19_2
def r19_4 : List GI := [⟨190003, (some k2), none, .mv (.c .nils)⟩]
def c19_5 : AC := .reg r19_4
def c19_6 : AC := .seq c19_5 .ret
def c19_7 : AC := .cond (.t k4) c19_6 .skip
def c19_8 : AC := .seq c19_3 c19_7
def r19_9 : List GI := [⟨190004, (some k5), none, .bsl 3 1 0 [] []⟩,
    ⟨190005, (some k6), none, .mv (.t k0)⟩,
    ⟨190006, (some k7), none, .app 3 1 (.t k5) (.t k6)⟩,
    ⟨190007, (some k2), none, .mv (.t k7)⟩]
def c19_10 : AC := .reg r19_9
def c19_11 : AC := .seq c19_10 .ret
def c19_12 : AC := .seq c19_8 c19_11
def c19_13 : AC := .seq c19_1 c19_12
def a19 : AFn := ⟨8, [.t k2],
  c19_13⟩
theorem ok19 : chkF prog 19 a19 = true := by kernel_rfl
def r20_0 : List GI := [⟨200000, (some k5), none, .mv (.t k0)⟩,
    ⟨200001, (some k6), none, .len 0 (.t k5)⟩,
    ⟨200002, (some k4), none, .mv (.t k6)⟩]
def c20_1 : AC := .reg r20_0
def r20_2 : List GI := [⟨200003, (some k7), none, .mv (.t k0)⟩,
    ⟨200004, (some k8), none, .mv (.t k4)⟩,
    ⟨200005, (some k9), none, .mv (.t k4)⟩,
    ⟨200006, (some k10), none, .conv .u64 (.t k9)⟩,
    ⟨200007, (some k11), none, .call (.fn 35) [(.t k10)]⟩,
    ⟨200008, (some k12), none, .mv (.t k1)⟩,
    ⟨200009, (some k13), none, .call (.fn 34) [(.t k7), (.c (.i .i64 (.ofNat 0))), (.t k8), (.t k11), (.t k12)]⟩]
def c20_3 : AC := .reg r20_2
def c20_4 : AC := .seq c20_1 c20_3
def a20 : AFn := ⟨14, [],
  c20_4⟩
theorem ok20 : chkF prog 20 a20 = true := by kernel_rfl
def r21_0 : List GI := [⟨210000, (some k4), none, .mv (.c (.i .i64 (.ofNat 0)))⟩]
def c21_1 : AC := .reg r21_0
def r21_2 : List GI := [⟨210001, (some k5), none, .mv (.t k0)⟩,
    ⟨210002, (some k6), none, .call (.fn 24) [(.t k5)]⟩,
    ⟨210003, (some k7), none, .mv (.t k1)⟩,
    ⟨210004, (some k8), none, .call (.fn 24) [(.t k7)]⟩,
    ⟨210005, (some k9), none, .call (.fn 23) [(.t k6), (.t k8)]⟩,
    ⟨210006, (some k10), none, .mv (.t k0)⟩,
    ⟨210007, (some k11), none, .mv (.t k1)⟩,
    ⟨210008, (some k12), none, .call (.fn 23) [(.t k10), (.t k11)]⟩,
    ⟨210009, (some k13), none, .bsl 3 1 2 [(.i .i64 (.ofNat 0)), (.i .i64 (.ofNat 0))] [(0, 1, (.t k9)), (1, 1, (.t k12))]⟩,
    ⟨210010, (some k14), none, .call (.fn 22) [(.t k13)]⟩,
    ⟨210011, (some k4), none, .mv (.t k14)⟩]
def c21_3 : AC := .reg r21_2
def c21_4 : AC := .seq c21_3 .ret
def c21_5 : AC := .seq c21_1 c21_4
def a21 : AFn := ⟨15, [.t k4],
  c21_5⟩
theorem ok21 : chkF prog 21 a21 = true := by kernel_rfl
def r22_0 : List GI := [⟨220000, (some k2), none, .mv (.c (.i .i64 (.ofNat 0)))⟩]
def c22_1 : AC := .reg r22_0
def r22_2 : List GI := [⟨220001, (some k3), none, .mv (.c (.i .i64 (.ofNat 0)))⟩]
def c22_3 : AC := .reg r22_2
def r22_4 : List GI := [⟨220002, (some k6), none, .mv (.t k0)⟩,
    ⟨220003, (some k7), none, .len 0 (.t k6)⟩,
    ⟨220004, (some k8), none, .mv (.c (.i .i64 (.ofNat 0)))⟩]
def c22_5 : AC := .reg r22_4
def r22_6 : List GI := [⟨220005, (some k9), none, .bin .lss 0 (.t k8) (.t k7)⟩]
def c22_7 : AC := .reg r22_6
def c22_8 : AC := .cond (.t k9) .skip (.exit 0)
def r22_9 : List GI := [⟨220006, (some k10), none, .ia 1 none (.t k6) (.t k8)⟩,
    ⟨220007, (some k11), none, .load none (.t k10)⟩,
    ⟨220008, (some k5), none, .mv (.t k11)⟩]
def c22_10 : AC := .reg r22_9
def r22_11 : List GI := [⟨220009, (some k12), none, .mv (.t k5)⟩,
    ⟨220010, (some k13), none, .mv (.t k3)⟩,
    ⟨220011, (some k14), none, .bin .neq 0 (.t k12) (.t k13)⟩]
def c22_12 : AC := .reg r22_11
def r22_13 : List GI := [⟨220012, (some k15), none, .mv (.t k5)⟩,
    ⟨220013, (some k2), none, .mv (.t k15)⟩]
def c22_14 : AC := .reg r22_13
def c22_15 : AC := .seq c22_14 .ret
def c22_16 : AC := .cond (.t k14) c22_15 .skip
def c22_17 : AC := .seq c22_12 c22_16
def c22_18 : AC := .seq c22_10 c22_17
def c22_19 : AC := .blk 1 c22_18
def r22_20 : List GI := [⟨220014, (some k16), none, .bin .add 0 (.t k8) (.c (.i .i64 (.ofNat 1)))⟩,
    ⟨220015, (some k8), none, .mv (.t k16)⟩]
def c22_21 : AC := .reg r22_20
def c22_22 : AC := .seq c22_19 c22_21
def c22_23 : AC := .seq c22_8 c22_22
def c22_24 : AC := .seq c22_7 c22_23
def c22_25 : AC := .loop c22_24
def c22_26 : AC := .blk 0 c22_25
def c22_27 : AC := .seq c22_5 c22_26
def r22_28 : List GI := [⟨220016, (some k17), none, .mv (.t k3)⟩,
    ⟨220017, (some k2), none, .mv (.t k17)⟩]
def c22_29 : AC := .reg r22_28
def c22_30 : AC := .seq c22_29 .ret
def c22_31 : AC := .seq c22_27 c22_30
def c22_32 : AC := .seq c22_3 c22_31
def c22_33 : AC := .seq c22_1 c22_32
def a22 : AFn := ⟨18, [.t k2],
  c22_33⟩
theorem ok22 : chkF prog 22 a22 = true := by kernel_rfl
def r23_0 : List GI := [⟨230000, (some k4), none, .mv (.c (.i .i64 (.ofNat 0)))⟩]
def c23_1 : AC := .reg r23_0
def r23_2 : List GI := [⟨230001, (some k7), none, .mv (.t k0)⟩,
    ⟨230002, (some k8), none, .call (.fn 36) [(.t k7)]⟩,
    ⟨230003, (some k5), none, .mv (.t k8)⟩]
def c23_3 : AC := .reg r23_2
def r23_4 : List GI := [⟨230004, (some k9), none, .mv (.t k1)⟩,
    ⟨230005, (some k10), none, .call (.fn 36) [(.t k9)]⟩,
    ⟨230006, (some k6), none, .mv (.t k10)⟩]
def c23_5 : AC := .reg r23_4
def r23_6 : List GI := [⟨230007, (some k11), none, .mv (.t k5)⟩]
def c23_7 : AC := .reg r23_6
def r23_8 : List GI := [⟨230008, (some k12), none, .mv (.t k6)⟩]
def c23_9 : AC := .reg r23_8
def r23_10 : List GI := [⟨230009, (some k4), none, .mv (.c (.i .i64 (.ofNat 0)))⟩]
def c23_11 : AC := .reg r23_10
def c23_12 : AC := .seq c23_11 .ret
def c23_13 : AC := .cond (.t k12) c23_12 .skip
def c23_14 : AC := .seq c23_9 c23_13
def r23_15 : List GI := [⟨230010, (some k4), none, .mv (.c (.i .i64 (.negSucc 0)))⟩]
def c23_16 : AC := .reg r23_15
def c23_17 : AC := .seq c23_16 .ret
def c23_18 : AC := .seq c23_14 c23_17
def c23_19 : AC := .cond (.t k11) c23_18 .skip
def c23_20 : AC := .seq c23_7 c23_19
def r23_21 : List GI := [⟨230011, (some k13), none, .mv (.t k6)⟩]
def c23_22 : AC := .reg r23_21
def r23_23 : List GI := [⟨230012, (some k4), none, .mv (.c (.i .i64 (.ofNat 1)))⟩]
def c23_24 : AC := .reg r23_23
def c23_25 : AC := .seq c23_24 .ret
def c23_26 : AC := .cond (.t k13) c23_25 .skip
def c23_27 : AC := .seq c23_22 c23_26
def r23_28 : List GI := [⟨230013, (some k14), none, .mv (.t k0)⟩,
    ⟨230014, (some k15), none, .mv (.t k1)⟩,
    ⟨230015, (some k16), none, .bin .lss 0 (.t k14) (.t k15)⟩]
def c23_29 : AC := .reg r23_28
def r23_30 : List GI := [⟨230016, (some k4), none, .mv (.c (.i .i64 (.negSucc 0)))⟩]
def c23_31 : AC := .reg r23_30
def c23_32 : AC := .seq c23_31 .ret
def c23_33 : AC := .cond (.t k16) c23_32 .skip
def c23_34 : AC := .seq c23_29 c23_33
def r23_35 : List GI := [⟨230017, (some k17), none, .mv (.t k0)⟩,
    ⟨230018, (some k18), none, .mv (.t k1)⟩,
    ⟨230019, (some k19), none, .bin .gtr 0 (.t k17) (.t k18)⟩]
def c23_36 : AC := .reg r23_35
def r23_37 : List GI := [⟨230020, (some k4), none, .mv (.c (.i .i64 (.ofNat 1)))⟩]
def c23_38 : AC := .reg r23_37
def c23_39 : AC := .seq c23_38 .ret
def c23_40 : AC := .cond (.t k19) c23_39 .skip
def c23_41 : AC := .seq c23_36 c23_40
def r23_42 : List GI := [⟨230021, (some k4), none, .mv (.c (.i .i64 (.ofNat 0)))⟩]
def c23_43 : AC := .reg r23_42
def c23_44 : AC := .seq c23_43 .ret
def c23_45 : AC := .seq c23_41 c23_44
def c23_46 : AC := .seq c23_34 c23_45
def c23_47 : AC := .seq c23_27 c23_46
def c23_48 : AC := .seq c23_20 c23_47
def c23_49 : AC := .seq c23_5 c23_48
def c23_50 : AC := .seq c23_3 c23_49
def c23_51 : AC := .seq c23_1 c23_50
def a23 : AFn := ⟨20, [.t k4],
  c23_51⟩
theorem ok23 : chkF prog 23 a23 = true := by kernel_rfl
def r24_0 : List GI := [⟨240000, (some k2), none, .mv (.c (.i .i64 (.ofNat 0)))⟩]
def c24_1 : AC := .reg r24_0
def r24_2 : List GI := [⟨240001, (some k3), none, .mv (.t k0)⟩,
    ⟨240002, (some k4), none, .mv (.t k0)⟩,
    ⟨240003, (some k5), none, .un .neg (.t k4)⟩,
    ⟨240004, (some k6), none, .mm true [(.t k3), (.t k5)]⟩,
    ⟨240005, (some k2), none, .mv (.t k6)⟩]
def c24_3 : AC := .reg r24_2
def c24_4 : AC := .seq c24_3 .ret
def c24_5 : AC := .seq c24_1 c24_4
def a24 : AFn := ⟨7, [.t k2],
  c24_5⟩
theorem ok24 : chkF prog 24 a24 = true := by kernel_rfl
def r25_0 : List GI := [⟨250000, (some k2), none, .mv (.c .nils)⟩]
def c25_1 : AC := .reg r25_0
def r25_2 : List GI := [⟨250001, (some k6), none, .mv (.t k0)⟩,
    ⟨250002, (some k7), none, .len 0 (.t k6)⟩,
    ⟨250003, (some k8), none, .bin .lss 0 (.t k7) (.c (.i .i64 (.ofNat 2)))⟩]
def c25_3 : AC := .reg r25_2
def r25_4 : List GI := [⟨250004, (some k9), none, .mv (.t k0)⟩,
    ⟨250005, (some k2), none, .mv (.t k9)⟩]
def c25_5 : AC := .reg r25_4
def c25_6 : AC := .seq c25_5 .ret
def c25_7 : AC := .cond (.t k8) c25_6 .skip
def c25_8 : AC := .seq c25_3 c25_7
def r25_9 : List GI := [⟨250006, (some k3), none, .mv (.c (.i .i64 (.ofNat 1)))⟩]
def c25_10 : AC := .reg r25_9
def r25_11 : List GI := [⟨250007, (some k10), none, .mv (.t k3)⟩,
    ⟨250008, (some k11), none, .mv (.t k0)⟩,
    ⟨250009, (some k12), none, .len 0 (.t k11)⟩,
    ⟨250010, (some k13), none, .bin .lss 0 (.t k10) (.t k12)⟩]
def c25_12 : AC := .reg r25_11
def c25_13 : AC := .cond (.t k13) .skip (.exit 0)
def c25_14 : AC := .seq c25_12 c25_13
def r25_15 : List GI := [⟨250011, (some k16), none, .mv (.t k0)⟩,
    ⟨250012, (some k17), none, .mv (.t k3)⟩,
    ⟨250013, (some k18), none, .ia 1 none (.t k16) (.t k17)⟩,
    ⟨250014, (some k19), none, .load none (.t k18)⟩,
    ⟨250015, (some k20), none, .mv (.t k0)⟩,
    ⟨250016, (some k21), none, .mv (.t k3)⟩,
    ⟨250017, (some k22), none, .bin .sub 0 (.t k21) (.c (.i .i64 (.ofNat 1)))⟩,
    ⟨250018, (some k23), none, .ia 1 none (.t k20) (.t k22)⟩,
    ⟨250019, (some k24), none, .load none (.t k23)⟩,
    ⟨250020, (some k25), none, .bin .eql 0 (.t k19) (.t k24)⟩]
def c25_16 : AC := .drw r25_15 [0, 0, 3, 7, 0, 0, 32, 112, 240, 511]
def r25_17 : List GI := [⟨250021, (some k26), none, .mv (.t k0)⟩,
    ⟨250022, (some k27), none, .mv (.t k3)⟩,
    ⟨250023, (some k28), none, .slice 1 (.t k26) (some (.t k27)) none none⟩,
    ⟨250024, (some k4), none, .mv (.t k28)⟩]
def c25_18 : AC := .reg r25_17
def r25_19 : List GI := [⟨250025, (some k5), none, .mv (.c (.i .i64 (.ofNat 1)))⟩]
def c25_20 : AC := .reg r25_19
def r25_21 : List GI := [⟨250026, (some k29), none, .mv (.t k5)⟩,
    ⟨250027, (some k30), none, .mv (.t k4)⟩,
    ⟨250028, (some k31), none, .len 0 (.t k30)⟩,
    ⟨250029, (some k32), none, .bin .lss 0 (.t k29) (.t k31)⟩]
def c25_22 : AC := .reg r25_21
def c25_23 : AC := .cond (.t k32) .skip (.exit 2)
def c25_24 : AC := .seq c25_22 c25_23
def r25_25 : List GI := [⟨250030, (some k35), none, .mv (.t k4)⟩,
    ⟨250031, (some k36), none, .mv (.t k5)⟩,
    ⟨250032, (some k37), none, .ia 1 none (.t k35) (.t k36)⟩,
    ⟨250033, (some k38), none, .load none (.t k37)⟩,
    ⟨250034, (some k39), none, .mv (.t k4)⟩,
    ⟨250035, (some k40), none, .mv (.t k5)⟩,
    ⟨250036, (some k41), none, .bin .sub 0 (.t k40) (.c (.i .i64 (.ofNat 1)))⟩,
    ⟨250037, (some k42), none, .ia 1 none (.t k39) (.t k41)⟩,
    ⟨250038, (some k43), none, .load none (.t k42)⟩,
    ⟨250039, (some k44), none, .bin .neq 0 (.t k38) (.t k43)⟩]
def c25_26 : AC := .drw r25_25 [0, 0, 3, 7, 0, 0, 32, 112, 240, 511]
def r25_27 : List GI := [⟨250040, (some k45), none, .mv (.t k0)⟩,
    ⟨250041, (some k46), none, .mv (.t k3)⟩,
    ⟨250042, (some k47), none, .mv (.t k4)⟩,
    ⟨250043, (some k48), none, .mv (.t k5)⟩,
    ⟨250044, (some k49), none, .ia 1 none (.t k47) (.t k48)⟩,
    ⟨250045, (some k50), none, .load none (.t k49)⟩,
    ⟨250046, (some k51), none, .ia 1 none (.t k45) (.t k46)⟩,
    ⟨250047, none, none, .store 1 (.t k51) (.t k50)⟩]
def c25_28 : AC := .reg r25_27
def r25_29 : List GI := [⟨250048, (some k52), none, .mv (.t k3)⟩,
    ⟨250049, (some k53), none, .bin .add 0 (.t k52) (.c (.i .i64 (.ofNat 1)))⟩,
    ⟨250050, (some k3), none, .mv (.t k53)⟩]
def c25_30 : AC := .reg r25_29
def c25_31 : AC := .seq c25_28 c25_30
def c25_32 : AC := .cond (.t k44) c25_31 .skip
def c25_33 : AC := .seq c25_26 c25_32
def c25_34 : AC := .blk 3 c25_33
def r25_35 : List GI := [⟨250051, (some k33), none, .mv (.t k5)⟩,
    ⟨250052, (some k34), none, .bin .add 0 (.t k33) (.c (.i .i64 (.ofNat 1)))⟩,
    ⟨250053, (some k5), none, .mv (.t k34)⟩]
def c25_36 : AC := .reg r25_35
def c25_37 : AC := .seq c25_34 c25_36
def c25_38 : AC := .seq c25_24 c25_37
def c25_39 : AC := .loop c25_38
def c25_40 : AC := .blk 2 c25_39
def c25_41 : AC := .seq c25_20 c25_40
def r25_42 : List GI := [⟨250054, (some k54), none, .mv (.t k0)⟩,
    ⟨250055, (some k55), none, .mv (.t k3)⟩,
    ⟨250056, (some k56), none, .slice 1 (.t k54) (some (.t k55)) none none⟩,
    ⟨250057, none, none, .clear 1 [(.i .i64 (.ofNat 0))] (.t k56)⟩]
def c25_43 : AC := .reg r25_42
def r25_44 : List GI := [⟨250058, (some k57), none, .mv (.t k0)⟩,
    ⟨250059, (some k58), none, .mv (.t k3)⟩,
    ⟨250060, (some k59), none, .slice 1 (.t k57) none (some (.t k58)) none⟩,
    ⟨250061, (some k2), none, .mv (.t k59)⟩]
def c25_45 : AC := .reg r25_44
def c25_46 : AC := .seq c25_45 .ret
def c25_47 : AC := .seq c25_43 c25_46
def c25_48 : AC := .seq c25_41 c25_47
def c25_49 : AC := .seq c25_18 c25_48
def c25_50 : AC := .cond (.t k25) c25_49 .skip
def c25_51 : AC := .seq c25_16 c25_50
def c25_52 : AC := .blk 1 c25_51
def r25_53 : List GI := [⟨250062, (some k14), none, .mv (.t k3)⟩,
    ⟨250063, (some k15), none, .bin .add 0 (.t k14) (.c (.i .i64 (.ofNat 1)))⟩,
    ⟨250064, (some k3), none, .mv (.t k15)⟩]
def c25_54 : AC := .reg r25_53
def c25_55 : AC := .seq c25_52 c25_54
def c25_56 : AC := .seq c25_14 c25_55
def c25_57 : AC := .loop c25_56
def c25_58 : AC := .blk 0 c25_57
def c25_59 : AC := .seq c25_10 c25_58
def r25_60 : List GI := [⟨250065, (some k60), none, .mv (.t k0)⟩,
    ⟨250066, (some k2), none, .mv (.t k60)⟩]
def c25_61 : AC := .reg r25_60
def c25_62 : AC := .seq c25_61 .ret
def c25_63 : AC := .seq c25_59 c25_62
def c25_64 : AC := .seq c25_8 c25_63
def c25_65 : AC := .seq c25_1 c25_64
def a25 : AFn := ⟨61, [.t k2],
  c25_65⟩
theorem ok25 : chkF prog 25 a25 = true := by kernel_rfl
def r26_0 : List GI := [⟨260000, (some k4), none, .mv (.c (.b false))⟩]
def c26_1 : AC := .reg r26_0
def r26_2 : List GI := [⟨260001, (some k5), none, .mv (.t k0)⟩,
    ⟨260002, (some k6), none, .mv (.t k1)⟩,
    ⟨260003, (some k7), none, .call (.fn 37) [(.t k5), (.t k6)]⟩,
    ⟨260004, (some k8), none, .bin .geq 0 (.t k7) (.c (.i .i64 (.ofNat 0)))⟩,
    ⟨260005, (some k4), none, .mv (.t k8)⟩]
def c26_3 : AC := .reg r26_2
def c26_4 : AC := .seq c26_3 .ret
def c26_5 : AC := .seq c26_1 c26_4
def a26 : AFn := ⟨9, [.t k4],
  c26_5⟩
theorem ok26 : chkF prog 26 a26 = true := by kernel_rfl
def r27_0 : List GI := [⟨270000, (some k3), none, .mv (.c (.b false))⟩]
def c27_1 : AC := .reg r27_0
def r27_2 : List GI := [⟨270001, (some k4), none, .mv (.t k0)⟩,
    ⟨270002, (some k5), none, .call (.fn 24) [(.t k4)]⟩,
    ⟨270003, (some k6), none, .load none (.t k1)⟩,
    ⟨270004, (some k7), none, .len 0 (.t k6)⟩,
    ⟨270005, (some k8), none, .bin .gtr 0 (.t k5) (.t k7)⟩,
    ⟨270006, (some k9), none, .mv (.t k8)⟩,
    ⟨270007, (some k10), (some (k9, false)), .load none (.t k1)⟩,
    ⟨270008, (some k11), (some (k9, false)), .mv (.t k0)⟩,
    ⟨270009, (some k12), (some (k9, false)), .call (.fn 24) [(.t k11)]⟩,
    ⟨270010, (some k13), (some (k9, false)), .bin .sub 0 (.t k12) (.c (.i .i64 (.ofNat 1)))⟩,
    ⟨270011, (some k14), (some (k9, false)), .ia 1 none (.t k10) (.t k13)⟩,
    ⟨270012, (some k15), (some (k9, false)), .load none (.t k14)⟩,
    ⟨270013, (some k16), (some (k9, false)), .mv (.t k0)⟩,
    ⟨270014, (some k17), (some (k9, false)), .bin .gtr 0 (.t k16) (.c (.i .i64 (.ofNat 0)))⟩,
    ⟨270015, (some k18), (some (k9, false)), .bin .neq 1 (.t k15) (.t k17)⟩,
    ⟨270016, (some k19), none, .pick (.t k9) (.c (.b true)) (.t k18)⟩,
    ⟨270017, (some k3), none, .mv (.t k19)⟩]
def c27_3 : AC := .drw r27_2 [0, 1, 0, 4, 15, 31, 63, 63, 191, 447, 1023, 2047, 63, 4159, 16383, 32767, 65535]
def c27_4 : AC := .seq c27_3 .ret
def c27_5 : AC := .seq c27_1 c27_4
def a27 : AFn := ⟨20, [.t k3],
  c27_5⟩
theorem ok27 : chkF prog 27 a27 = true := by kernel_rfl
def r28_0 : List GI := [⟨280000, (some k3), none, .mv (.c (.b false))⟩]
def c28_1 : AC := .reg r28_0
def r28_2 : List GI := [⟨280001, (some k4), none, .load none (.t k1)⟩,
    ⟨280002, (some k5), none, .mv (.t k0)⟩,
    ⟨280003, (some k6), none, .call (.fn 29) [(.t k4), (.t k5)]⟩,
    ⟨280004, (some k7), none, .un .not (.t k6)⟩,
    ⟨280005, (some k3), none, .mv (.t k7)⟩]
def c28_3 : AC := .reg r28_2
def c28_4 : AC := .seq c28_3 .ret
def c28_5 : AC := .seq c28_1 c28_4
def a28 : AFn := ⟨8, [.t k3],
  c28_5⟩
theorem ok28 : chkF prog 28 a28 = true := by kernel_rfl
def r29_0 : List GI := [⟨290000, (some k4), none, .mv (.c (.b false))⟩]
def c29_1 : AC := .reg r29_0
def r29_2 : List GI := [⟨290001, (some k5), none, .mv (.t k0)⟩,
    ⟨290002, (some k6), none, .mv (.t k1)⟩,
    ⟨290003, (some k7), none, .call (.fn 38) [(.t k5), (.t k6)]⟩,
    ⟨290004, (some k8), none, .bin .geq 0 (.t k7) (.c (.i .i64 (.ofNat 0)))⟩,
    ⟨290005, (some k4), none, .mv (.t k8)⟩]
def c29_3 : AC := .reg r29_2
def c29_4 : AC := .seq c29_3 .ret
def c29_5 : AC := .seq c29_1 c29_4
def a29 : AFn := ⟨9, [.t k4],
  c29_5⟩
theorem ok29 : chkF prog 29 a29 = true := by kernel_rfl
def r30_0 : List GI := [⟨300000, (some k4), none, .box 46 (.t k0)⟩,
    ⟨300001, (some k8), none, .new 59 [.nilp, (.i .i64 (.ofNat 0)), .nils, .nils, .nils, .nils, .nils]⟩]
def c30_1 : AC := .reg r30_0
def r30_2 : List GI := [⟨300002, (some k15), none, .fa 0 (.t k4)⟩,
    ⟨300003, (some k16), none, .load (some 2) (.t k15)⟩,
    ⟨300004, (some k17), none, .call (.fn 40) [(.t k16)]⟩,
    ⟨300005, (some k18), none, .call (.fn 39) [(.t k17)]⟩,
    ⟨300006, (some k19), none, .load (some 5) (.t k4)⟩,
    ⟨300007, (some k20), none, .build [.nilp, (.i .i64 (.ofNat 0)), .nils, .nils, .nils, .nils, .nils] [(0, 1, (.t k18)), (1, 5, (.t k19)), (6, 1, (.c .nils))]⟩,
    ⟨300008, (some k9), none, .new 59 [.nilp, (.i .i64 (.ofNat 0)), .nils, .nils, .nils, .nils, .nils]⟩,
    ⟨300009, none, none, .store 7 (.t k9) (.t k20)⟩]
def c30_3 : AC := .drw r30_2 [0, 1, 3, 7, 0, 31, 0, 127]
def r30_4 : List GI := [⟨300010, (some k21), none, .fa 0 (.t k4)⟩,
    ⟨300011, (some k22), none, .load (some 2) (.t k21)⟩,
    ⟨300012, (some k23), none, .call (.fn 41) [(.t k22), (.c (.i .i64 (.ofNat 0)))]⟩,
    ⟨300013, (some k24), none, .len 0 (.t k23)⟩,
    ⟨300014, (some k25), none, .mv (.c (.i .i64 (.ofNat 0)))⟩]
def c30_5 : AC := .reg r30_4
def r30_6 : List GI := [⟨300015, (some k26), none, .bin .lss 0 (.t k25) (.t k24)⟩]
def c30_7 : AC := .reg r30_6
def c30_8 : AC := .cond (.t k26) .skip (.exit 0)
def r30_9 : List GI := [⟨300016, (some k27), none, .ia 1 none (.t k23) (.t k25)⟩,
    ⟨300017, (some k28), none, .load none (.t k27)⟩,
    ⟨300018, (some k11), none, .mv (.t k28)⟩]
def c30_10 : AC := .reg r30_9
def r30_11 : List GI := [⟨300019, (some k29), none, .fa 0 (.t k9)⟩,
    ⟨300020, (some k30), none, .load none (.t k29)⟩,
    ⟨300021, (some k31), none, .mv (.t k11)⟩,
    ⟨300022, (some k32), none, .call (.fn 42) [(.t k30), (.t k31)]⟩]
def c30_12 : AC := .reg r30_11
def c30_13 : AC := .seq c30_10 c30_12
def c30_14 : AC := .blk 1 c30_13
def r30_15 : List GI := [⟨300023, (some k33), none, .bin .add 0 (.t k25) (.c (.i .i64 (.ofNat 1)))⟩,
    ⟨300024, (some k25), none, .mv (.t k33)⟩]
def c30_16 : AC := .reg r30_15
def c30_17 : AC := .seq c30_14 c30_16
def c30_18 : AC := .seq c30_8 c30_17
def c30_19 : AC := .seq c30_7 c30_18
def c30_20 : AC := .loop c30_19
def c30_21 : AC := .blk 0 c30_20
def c30_22 : AC := .seq c30_5 c30_21
def r30_23 : List GI := [⟨300025, (some k34), none, .fa 0 (.t k9)⟩,
    ⟨300026, (some k35), none, .load none (.t k34)⟩,
    ⟨300027, (some k36), none, .load (some 5) (.t k4)⟩,
    ⟨300028, (some k37), none, .mv (.t k2)⟩,
    ⟨300029, (some k38), none, .mv (.t k3)⟩,
    ⟨300030, (some k39), none, .call (.fn 43) [(.t k36), (.t k37), (.t k38)]⟩,
    ⟨300031, (some k40), none, .call (.fn 12) [(.t k39)]⟩,
    ⟨300032, (some k41), none, .call (.fn 42) [(.t k35), (.t k40)]⟩]
def c30_24 : AC := .drw r30_23 [0, 1, 0, 0, 0, 28, 60, 127]
def r30_25 : List GI := [⟨300033, (some k42), none, .mv (.t k1)⟩,
    ⟨300034, (some k43), none, .len 0 (.t k42)⟩,
    ⟨300035, (some k44), none, .mv (.c (.i .i64 (.ofNat 0)))⟩]
def c30_26 : AC := .reg r30_25
def r30_27 : List GI := [⟨300036, (some k45), none, .bin .lss 0 (.t k44) (.t k43)⟩]
def c30_28 : AC := .reg r30_27
def c30_29 : AC := .cond (.t k45) .skip (.exit 2)
def r30_30 : List GI := [⟨300037, (some k46), none, .mv (.t k44)⟩,
    ⟨300038, (some k47), none, .ia 1 none (.t k42) (.t k44)⟩,
    ⟨300039, (some k48), none, .load none (.t k47)⟩,
    ⟨300040, (some k12), none, .mv (.t k46)⟩,
    ⟨300041, (some k13), none, .mv (.t k48)⟩]
def c30_31 : AC := .reg r30_30
def r30_32 : List GI := [⟨300042, (some k49), none, .fa 2 (.t k4)⟩,
    ⟨300043, (some k50), none, .load none (.t k49)⟩,
    ⟨300044, (some k51), none, .mv (.t k12)⟩,
    ⟨300045, (some k52), none, .ia 3 none (.t k50) (.t k51)⟩,
    ⟨300046, (some k53), none, .ia 1 (some 3) (.t k52) (.c (.i .i64 (.ofNat 0)))⟩,
    ⟨300047, (some k54), none, .load none (.t k53)⟩,
    ⟨300048, (some k55), none, .bin .mul 0 (.c (.i .i64 (.ofNat 2))) (.t k54)⟩,
    ⟨300049, (some k56), none, .call (.fn 44) [(.t k55)]⟩,
    ⟨300050, (some k14), none, .mv (.t k56)⟩]
def c30_33 : AC := .reg r30_32
def r30_34 : List GI := [⟨300051, (some k57), none, .mv (.t k13)⟩,
    ⟨300052, (some k58), none, .un .not (.t k57)⟩]
def c30_35 : AC := .reg r30_34
def r30_36 : List GI := [⟨300053, (some k59), none, .mv (.t k14)⟩,
    ⟨300054, (some k60), none, .un .neg (.t k59)⟩,
    ⟨300055, (some k14), none, .mv (.t k60)⟩]
def c30_37 : AC := .reg r30_36
def c30_38 : AC := .cond (.t k58) c30_37 .skip
def c30_39 : AC := .seq c30_35 c30_38
def r30_40 : List GI := [⟨300056, (some k61), none, .fa 6 (.t k9)⟩,
    ⟨300057, (some k62), none, .load none (.t k61)⟩,
    ⟨300058, (some k63), none, .mv (.t k14)⟩,
    ⟨300059, (some k64), none, .bsl 3 1 1 [(.i .i64 (.ofNat 0))] [(0, 1, (.t k63))]⟩,
    ⟨300060, (some k65), none, .app 3 1 (.t k62) (.t k64)⟩,
    ⟨300061, (some k66), none, .fa 6 (.t k9)⟩,
    ⟨300062, none, none, .store 1 (.t k66) (.t k65)⟩]
def c30_41 : AC := .reg r30_40
def c30_42 : AC := .seq c30_39 c30_41
def c30_43 : AC := .seq c30_33 c30_42
def c30_44 : AC := .seq c30_31 c30_43
def c30_45 : AC := .blk 3 c30_44
def r30_46 : List GI := [⟨300063, (some k67), none, .bin .add 0 (.t k44) (.c (.i .i64 (.ofNat 1)))⟩,
    ⟨300064, (some k44), none, .mv (.t k67)⟩]
def c30_47 : AC := .reg r30_46
def c30_48 : AC := .seq c30_45 c30_47
def c30_49 : AC := .seq c30_29 c30_48
def c30_50 : AC := .seq c30_28 c30_49
def c30_51 : AC := .loop c30_50
def c30_52 : AC := .blk 2 c30_51
def c30_53 : AC := .seq c30_26 c30_52
def r30_54 : List GI := [⟨300065, (some k68), none, .load (some 7) (.t k9)⟩,
    ⟨300066, none, none, .store 7 (.t k8) (.t k68)⟩]
def c30_55 : AC := .reg r30_54
def c30_56 : AC := .seq c30_55 .ret
def c30_57 : AC := .seq c30_53 c30_56
def c30_58 : AC := .seq c30_24 c30_57
def c30_59 : AC := .seq c30_22 c30_58
def c30_60 : AC := .seq c30_3 c30_59
def c30_61 : AC := .seq c30_1 c30_60
def a30 : AFn := ⟨69, [.cell k8 (some 7)],
  c30_61⟩
theorem ok30 : chkF prog 30 a30 = true := by kernel_rfl
def r31_0 : List GI := [⟨310000, (some k6), none, .mv (.c .nils)⟩]
def c31_1 : AC := .reg r31_0
def r31_2 : List GI := [⟨310001, (some k8), none, .mv (.t k0)⟩,
    ⟨310002, (some k9), none, .mv (.t k1)⟩,
    ⟨310003, (some k10), none, .mv (.t k2)⟩,
    ⟨310004, (some k11), none, .mv (.t k0)⟩,
    ⟨310005, (some k12), none, .len 0 (.t k11)⟩,
    ⟨310006, (some k13), none, .slice 1 (.t k8) (some (.t k9)) (some (.t k10)) (some (.t k12))⟩]
def c31_3 : AC := .reg r31_2
def r31_4 : List GI := [⟨310007, (some k14), none, .mv (.t k1)⟩,
    ⟨310008, (some k15), none, .mv (.t k2)⟩,
    ⟨310009, (some k16), none, .bin .eql 0 (.t k14) (.t k15)⟩]
def c31_5 : AC := .reg r31_4
def r31_6 : List GI := [⟨310010, (some k17), none, .mv (.t k0)⟩,
    ⟨310011, (some k6), none, .mv (.t k17)⟩]
def c31_7 : AC := .reg r31_6
def c31_8 : AC := .seq c31_7 .ret
def c31_9 : AC := .cond (.t k16) c31_8 .skip
def c31_10 : AC := .seq c31_5 c31_9
def r31_11 : List GI := [⟨310012, (some k18), none, .mv (.t k0)⟩,
    ⟨310013, (some k19), none, .len 0 (.t k18)⟩,
    ⟨310014, (some k7), none, .mv (.t k19)⟩]
def c31_12 : AC := .reg r31_11
def r31_13 : List GI := [⟨310015, (some k20), none, .mv (.t k0)⟩,
    ⟨310016, (some k21), none, .mv (.t k1)⟩,
    ⟨310017, (some k22), none, .slice 1 (.t k20) none (some (.t k21)) none⟩,
    ⟨310018, (some k23), none, .mv (.t k0)⟩,
    ⟨310019, (some k24), none, .mv (.t k2)⟩,
    ⟨310020, (some k25), none, .slice 1 (.t k23) (some (.t k24)) none none⟩,
    ⟨310021, (some k26), none, .app 3 1 (.t k22) (.t k25)⟩,
    ⟨310022, (some k0), none, .mv (.t k26)⟩]
def c31_14 : AC := .drw r31_13 [0, 0, 3, 0, 0, 24, 63, 127]
def r31_15 : List GI := [⟨310023, (some k27), none, .mv (.t k0)⟩,
    ⟨310024, (some k28), none, .mv (.t k0)⟩,
    ⟨310025, (some k29), none, .len 0 (.t k28)⟩,
    ⟨310026, (some k30), none, .mv (.t k7)⟩,
    ⟨310027, (some k31), none, .slice 1 (.t k27) (some (.t k29)) (some (.t k30)) none⟩,
    ⟨310028, none, none, .clear 1 [(.i .i64 (.ofNat 0))] (.t k31)⟩]
def c31_16 : AC := .reg r31_15
def r31_17 : List GI := [⟨310029, (some k32), none, .mv (.t k0)⟩,
    ⟨310030, (some k6), none, .mv (.t k32)⟩]
def c31_18 : AC := .reg r31_17
def c31_19 : AC := .seq c31_18 .ret
def c31_20 : AC := .seq c31_16 c31_19
def c31_21 : AC := .seq c31_14 c31_20
def c31_22 : AC := .seq c31_12 c31_21
def c31_23 : AC := .seq c31_10 c31_22
def c31_24 : AC := .seq c31_3 c31_23
def c31_25 : AC := .seq c31_1 c31_24
def a31 : AFn := ⟨33, [.t k6],
  c31_25⟩
theorem ok31 : chkF prog 31 a31 = true := by kernel_rfl
def r32_0 : List GI := [⟨320000, (some k2), none, .box 59 (.t k0)⟩,
    ⟨320001, (some k4), none, .mv (.c (.b false))⟩]
def c32_1 : AC := .reg r32_0
def r32_2 : List GI := [⟨320002, (some k9), none, .fa 6 (.t k2)⟩,
    ⟨320003, (some k10), none, .load none (.t k9)⟩,
    ⟨320004, (some k11), none, .call (.fn 19) [(.t k10)]⟩,
    ⟨320005, (some k5), none, .mv (.t k11)⟩]
def c32_3 : AC := .reg r32_2
def r32_4 : List GI := [⟨320006, (some k12), none, .mv (.t k1)⟩,
    ⟨320007, (some k13), none, .len 0 (.t k12)⟩,
    ⟨320008, (some k14), none, .mv (.c (.i .i64 (.ofNat 0)))⟩]
def c32_5 : AC := .reg r32_4
def r32_6 : List GI := [⟨320009, (some k15), none, .bin .lss 0 (.t k14) (.t k13)⟩]
def c32_7 : AC := .reg r32_6
def c32_8 : AC := .cond (.t k15) .skip (.exit 0)
def r32_9 : List GI := [⟨320010, (some k16), none, .ia 1 none (.t k12) (.t k14)⟩,
    ⟨320011, (some k17), none, .load none (.t k16)⟩,
    ⟨320012, (some k7), none, .mv (.t k17)⟩]
def c32_10 : AC := .reg r32_9
def r32_11 : List GI := [⟨320013, (some k18), none, .fa 1 (.t k2)⟩,
    ⟨320014, (some k19), none, .fa 3 (.t k18)⟩,
    ⟨320015, (some k20), none, .load none (.t k19)⟩,
    ⟨320016, (some k21), none, .mv (.t k7)⟩,
    ⟨320017, (some k22), none, .call (.fn 24) [(.t k21)]⟩,
    ⟨320018, (some k23), none, .bin .sub 0 (.t k22) (.c (.i .i64 (.ofNat 1)))⟩,
    ⟨320019, (some k24), none, .ia 5 none (.t k20) (.t k23)⟩,
    ⟨320020, (some k25), none, .fa 0 (.t k24)⟩,
    ⟨320021, (some k26), none, .load none (.t k25)⟩,
    ⟨320022, (some k27), none, .bin .mul 0 (.c (.i .i64 (.ofNat 2))) (.t k26)⟩,
    ⟨320023, (some k28), none, .call (.fn 44) [(.t k27)]⟩,
    ⟨320024, (some k8), none, .mv (.t k28)⟩]
def c32_12 : AC := .drw r32_11 [0, 1, 3, 0, 8, 24, 63, 127, 255, 511, 1023, 2047]
def r32_13 : List GI := [⟨320025, (some k29), none, .mv (.t k7)⟩,
    ⟨320026, (some k30), none, .bin .lss 0 (.t k29) (.c (.i .i64 (.ofNat 0)))⟩]
def c32_14 : AC := .reg r32_13
def r32_15 : List GI := [⟨320027, (some k31), none, .mv (.t k8)⟩,
    ⟨320028, (some k32), none, .un .neg (.t k31)⟩,
    ⟨320029, (some k8), none, .mv (.t k32)⟩]
def c32_16 : AC := .reg r32_15
def c32_17 : AC := .cond (.t k30) c32_16 .skip
def c32_18 : AC := .seq c32_14 c32_17
def r32_19 : List GI := [⟨320030, (some k33), none, .mv (.t k5)⟩,
    ⟨320031, (some k34), none, .mv (.t k8)⟩,
    ⟨320032, (some k35), none, .bsl 3 1 1 [(.i .i64 (.ofNat 0))] [(0, 1, (.t k34))]⟩,
    ⟨320033, (some k36), none, .app 3 1 (.t k33) (.t k35)⟩,
    ⟨320034, (some k5), none, .mv (.t k36)⟩]
def c32_20 : AC := .reg r32_19
def c32_21 : AC := .seq c32_18 c32_20
def c32_22 : AC := .seq c32_12 c32_21
def c32_23 : AC := .seq c32_10 c32_22
def c32_24 : AC := .blk 1 c32_23
def r32_25 : List GI := [⟨320035, (some k37), none, .bin .add 0 (.t k14) (.c (.i .i64 (.ofNat 1)))⟩,
    ⟨320036, (some k14), none, .mv (.t k37)⟩]
def c32_26 : AC := .reg r32_25
def c32_27 : AC := .seq c32_24 c32_26
def c32_28 : AC := .seq c32_8 c32_27
def c32_29 : AC := .seq c32_7 c32_28
def c32_30 : AC := .loop c32_29
def c32_31 : AC := .blk 0 c32_30
def c32_32 : AC := .seq c32_5 c32_31
def r32_33 : List GI := [⟨320037, (some k38), none, .fa 0 (.t k2)⟩,
    ⟨320038, (some k39), none, .load none (.t k38)⟩,
    ⟨320039, (some k40), none, .mv (.t k5)⟩,
    ⟨320040, (some k41), none, .call (.fn 45) [(.t k39), (.t k40), (.c (.i .i64 (.ofNat 1073741824)))]⟩]
def c32_34 : AC := .reg r32_33
def r32_35 : List GI := [⟨320041, (some k43), none, .bin .eql 0 (.t k41) (.c (.i .i64 (.ofNat 2)))⟩,
    ⟨320042, (some k42), none, .mv (.t k43)⟩]
def c32_36 : AC := .reg r32_35
def r32_37 : List GI := [⟨320043, (some k4), none, .mv (.c (.b true))⟩]
def c32_38 : AC := .reg r32_37
def c32_39 : AC := .seq c32_38 .ret
def r32_40 : List GI := [⟨320044, (some k45), none, .bin .eql 0 (.t k41) (.c (.i .i64 (.ofNat 1)))⟩,
    ⟨320045, (some k44), none, .mv (.t k45)⟩]
def c32_41 : AC := .reg r32_40
def r32_42 : List GI := [⟨320046, (some k4), none, .mv (.c (.b false))⟩]
def c32_43 : AC := .reg r32_42
def c32_44 : AC := .seq c32_43 .ret
def c32_45 : AC := .cond (.t k44) c32_44 .skip
def c32_46 : AC := .seq c32_41 c32_45
def c32_47 : AC := .cond (.t k42) c32_39 c32_46
def c32_48 : AC := .seq c32_36 c32_47
def c32_49 : AC := .blk 4 c32_48
def c32_50 : AC := .seq c32_34 c32_49
def c32_51 : AC := .blk 3 c32_50
def c32_52 : AC := .loop c32_51
def c32_53 : AC := .blk 2 c32_52
def c32_54 : AC := .seq c32_32 c32_53
def c32_55 : AC := .seq c32_3 c32_54
def c32_56 : AC := .seq c32_1 c32_55
def a32 : AFn := ⟨46, [.t k4],
  c32_56⟩
theorem ok32 : chkF prog 32 a32 = true := by kernel_rfl
def r33_0 : List GI := [⟨330000, (some k1), none, .box 46 (.t k0)⟩,
    ⟨330001, (some k2), none, .mv (.c .nils)⟩]
def c33_1 : AC := .reg r33_0
def r33_2 : List GI := [⟨330002, (some k6), none, .fa 3 (.t k1)⟩,
    ⟨330003, (some k7), none, .load none (.t k6)⟩,
    ⟨330004, (some k8), none, .len 0 (.t k7)⟩,
    ⟨330005, (some k9), none, .mks 4 1 [(.b false)] (.t k8) (.t k8)⟩,
    ⟨330006, (some k3), none, .mv (.t k9)⟩]
def c33_3 : AC := .reg r33_2
def r33_4 : List GI := [⟨330007, (some k10), none, .fa 3 (.t k1)⟩,
    ⟨330008, (some k11), none, .load none (.t k10)⟩,
    ⟨330009, (some k12), none, .len 0 (.t k11)⟩,
    ⟨330010, (some k13), none, .mv (.c (.i .i64 (.ofNat 0)))⟩]
def c33_5 : AC := .reg r33_4
def r33_6 : List GI := [⟨330011, (some k14), none, .bin .lss 0 (.t k13) (.t k12)⟩]
def c33_7 : AC := .reg r33_6
def c33_8 : AC := .cond (.t k14) .skip (.exit 0)
def r33_9 : List GI := [⟨330012, (some k15), none, .mv (.t k13)⟩,
    ⟨330013, (some k16), none, .ia 5 none (.t k11) (.t k13)⟩,
    ⟨330014, (some k17), none, .load (some 5) (.t k16)⟩,
    ⟨330015, (some k5), none, .new 66 [(.i .i64 (.ofNat 0)), (.i .i64 (.ofNat 0)), (.b false), (.i .i64 (.ofNat 0)), (.i .i64 (.ofNat 0))]⟩,
    ⟨330016, (some k4), none, .mv (.t k15)⟩,
    ⟨330017, none, none, .store 5 (.t k5) (.t k17)⟩]
def c33_10 : AC := .reg r33_9
def r33_11 : List GI := [⟨330018, (some k18), none, .mv (.t k3)⟩,
    ⟨330019, (some k19), none, .mv (.t k4)⟩,
    ⟨330020, (some k20), none, .fa 2 (.t k5)⟩,
    ⟨330021, (some k21), none, .load none (.t k20)⟩,
    ⟨330022, (some k22), none, .ia 1 none (.t k18) (.t k19)⟩,
    ⟨330023, none, none, .store 1 (.t k22) (.t k21)⟩]
def c33_12 : AC := .reg r33_11
def c33_13 : AC := .seq c33_10 c33_12
def c33_14 : AC := .blk 1 c33_13
def r33_15 : List GI := [⟨330024, (some k23), none, .bin .add 0 (.t k13) (.c (.i .i64 (.ofNat 1)))⟩,
    ⟨330025, (some k13), none, .mv (.t k23)⟩]
def c33_16 : AC := .reg r33_15
def c33_17 : AC := .seq c33_14 c33_16
def c33_18 : AC := .seq c33_8 c33_17
def c33_19 : AC := .seq c33_7 c33_18
def c33_20 : AC := .loop c33_19
def c33_21 : AC := .blk 0 c33_20
def c33_22 : AC := .seq c33_5 c33_21
def r33_23 : List GI := [⟨330026, (some k24), none, .mv (.t k3)⟩,
    ⟨330027, (some k2), none, .mv (.t k24)⟩]
def c33_24 : AC := .reg r33_23
def c33_25 : AC := .seq c33_24 .ret
def c33_26 : AC := .seq c33_22 c33_25
def c33_27 : AC := .seq c33_3 c33_26
def c33_28 : AC := .seq c33_1 c33_27
def a33 : AFn := ⟨25, [.t k2],
  c33_28⟩
theorem ok33 : chkF prog 33 a33 = true := by kernel_rfl
def r34_0 : List GI := [⟨340000, (some k10), none, .mv (.c (.b true))⟩]
def c34_1 : AC := .reg r34_0
def r34_2 : List GI := [⟨340001, (some k11), none, .mv (.c (.b true))⟩]
def c34_3 : AC := .reg r34_2
def r34_4 : List GI := [⟨340002, (some k21), none, .mv (.t k2)⟩,
    ⟨340003, (some k22), none, .mv (.t k1)⟩,
    ⟨340004, (some k23), none, .bin .sub 0 (.t k21) (.t k22)⟩,
    ⟨340005, (some k12), none, .mv (.t k23)⟩]
def c34_5 : AC := .reg r34_4
def r34_6 : List GI := [⟨340006, (some k24), none, .mv (.t k12)⟩,
    ⟨340007, (some k25), none, .bin .leq 0 (.t k24) (.c (.i .i64 (.ofNat 12)))⟩]
def c34_7 : AC := .reg r34_6
def r34_8 : List GI := [⟨340008, (some k26), none, .mv (.t k0)⟩,
    ⟨340009, (some k27), none, .mv (.t k1)⟩,
    ⟨340010, (some k28), none, .mv (.t k2)⟩,
    ⟨340011, (some k29), none, .mv (.t k4)⟩,
    ⟨340012, (some k30), none, .call (.fn 46) [(.t k26), (.t k27), (.t k28), (.t k29)]⟩]
def c34_9 : AC := .reg r34_8
def c34_10 : AC := .seq c34_9 .ret
def c34_11 : AC := .cond (.t k25) c34_10 .skip
def c34_12 : AC := .seq c34_7 c34_11
def r34_13 : List GI := [⟨340013, (some k31), none, .mv (.t k3)⟩,
    ⟨340014, (some k32), none, .bin .eql 0 (.t k31) (.c (.i .i64 (.ofNat 0)))⟩]
def c34_14 : AC := .reg r34_13
def r34_15 : List GI := [⟨340015, (some k33), none, .mv (.t k0)⟩,
    ⟨340016, (some k34), none, .mv (.t k1)⟩,
    ⟨340017, (some k35), none, .mv (.t k2)⟩,
    ⟨340018, (some k36), none, .mv (.t k4)⟩,
    ⟨340019, (some k37), none, .call (.fn 47) [(.t k33), (.t k34), (.t k35), (.t k36)]⟩]
def c34_16 : AC := .reg r34_15
def c34_17 : AC := .seq c34_16 .ret
def c34_18 : AC := .cond (.t k32) c34_17 .skip
def c34_19 : AC := .seq c34_14 c34_18
def r34_20 : List GI := [⟨340020, (some k38), none, .mv (.t k10)⟩,
    ⟨340021, (some k39), none, .un .not (.t k38)⟩]
def c34_21 : AC := .reg r34_20
def r34_22 : List GI := [⟨340022, (some k40), none, .mv (.t k0)⟩,
    ⟨340023, (some k41), none, .mv (.t k1)⟩,
    ⟨340024, (some k42), none, .mv (.t k2)⟩,
    ⟨340025, (some k43), none, .mv (.t k4)⟩,
    ⟨340026, (some k44), none, .call (.fn 48) [(.t k40), (.t k41), (.t k42), (.t k43)]⟩]
def c34_23 : AC := .reg r34_22
def r34_24 : List GI := [⟨340027, (some k45), none, .mv (.t k3)⟩,
    ⟨340028, (some k46), none, .bin .sub 0 (.t k45) (.c (.i .i64 (.ofNat 1)))⟩,
    ⟨340029, (some k3), none, .mv (.t k46)⟩]
def c34_25 : AC := .reg r34_24
def c34_26 : AC := .seq c34_23 c34_25
def c34_27 : AC := .cond (.t k39) c34_26 .skip
def c34_28 : AC := .seq c34_21 c34_27
def r34_29 : List GI := [⟨340030, (some k48), none, .mv (.t k0)⟩,
    ⟨340031, (some k49), none, .mv (.t k1)⟩,
    ⟨340032, (some k50), none, .mv (.t k2)⟩,
    ⟨340033, (some k51), none, .mv (.t k4)⟩,
    ⟨340034, (some k52), none, .call (.fn 49) [(.t k48), (.t k49), (.t k50), (.t k51)]⟩,
    ⟨340035, (some k47), none, .mv (.t k52)⟩,
    ⟨340036, (some k53), none, .ext 0 (.t k47)⟩,
    ⟨340037, (some k54), none, .ext 1 (.t k47)⟩,
    ⟨340038, (some k13), none, .mv (.t k53)⟩,
    ⟨340039, (some k14), none, .mv (.t k54)⟩]
def c34_30 : AC := .reg r34_29
def r34_31 : List GI := [⟨340040, (some k55), none, .mv (.t k14)⟩,
    ⟨340041, (some k56), none, .bin .eql 0 (.t k55) (.c (.i .i64 (.ofNat 2)))⟩]
def c34_32 : AC := .reg r34_31
def r34_33 : List GI := [⟨340042, (some k57), none, .mv (.t k0)⟩,
    ⟨340043, (some k58), none, .mv (.t k1)⟩,
    ⟨340044, (some k59), none, .mv (.t k2)⟩,
    ⟨340045, (some k60), none, .mv (.t k4)⟩,
    ⟨340046, (some k61), none, .call (.fn 50) [(.t k57), (.t k58), (.t k59), (.t k60)]⟩]
def c34_34 : AC := .reg r34_33
def r34_35 : List GI := [⟨340047, (some k62), none, .mv (.t k2)⟩,
    ⟨340048, (some k63), none, .bin .sub 0 (.t k62) (.c (.i .i64 (.ofNat 1)))⟩,
    ⟨340049, (some k64), none, .mv (.t k13)⟩,
    ⟨340050, (some k65), none, .mv (.t k1)⟩,
    ⟨340051, (some k66), none, .bin .sub 0 (.t k64) (.t k65)⟩,
    ⟨340052, (some k67), none, .bin .sub 0 (.t k63) (.t k66)⟩,
    ⟨340053, (some k13), none, .mv (.t k67)⟩]
def c34_36 : AC := .reg r34_35
def r34_37 : List GI := [⟨340054, (some k14), none, .mv (.c (.i .i64 (.ofNat 1)))⟩]
def c34_38 : AC := .reg r34_37
def c34_39 : AC := .seq c34_36 c34_38
def c34_40 : AC := .seq c34_34 c34_39
def c34_41 : AC := .cond (.t k56) c34_40 .skip
def c34_42 : AC := .seq c34_32 c34_41
def r34_43 : List GI := [⟨340055, (some k68), none, .mv (.t k10)⟩,
    ⟨340056, (some k69), none, .mv (.t k68)⟩,
    ⟨340057, (some k70), (some (k69, true)), .mv (.t k11)⟩,
    ⟨340058, (some k71), none, .pick (.t k69) (.t k70) (.c (.b false))⟩,
    ⟨340059, (some k72), none, .mv (.t k71)⟩,
    ⟨340060, (some k73), (some (k72, true)), .mv (.t k14)⟩,
    ⟨340061, (some k74), (some (k72, true)), .bin .eql 0 (.t k73) (.c (.i .i64 (.ofNat 1)))⟩,
    ⟨340062, (some k75), none, .pick (.t k72) (.t k74) (.c (.b false))⟩]
def c34_44 : AC := .reg r34_43
def r34_45 : List GI := [⟨340063, (some k76), none, .mv (.t k0)⟩,
    ⟨340064, (some k77), none, .mv (.t k1)⟩,
    ⟨340065, (some k78), none, .mv (.t k2)⟩,
    ⟨340066, (some k79), none, .mv (.t k4)⟩,
    ⟨340067, (some k80), none, .call (.fn 51) [(.t k76), (.t k77), (.t k78), (.t k79)]⟩]
def c34_46 : AC := .reg r34_45
def c34_47 : AC := .cond (.t k80) .ret .skip
def c34_48 : AC := .seq c34_46 c34_47
def c34_49 : AC := .cond (.t k75) c34_48 .skip
def c34_50 : AC := .seq c34_44 c34_49
def r34_51 : List GI := [⟨340068, (some k81), none, .mv (.t k1)⟩,
    ⟨340069, (some k82), none, .bin .gtr 0 (.t k81) (.c (.i .i64 (.ofNat 0)))⟩,
    ⟨340070, (some k83), none, .mv (.t k82)⟩,
    ⟨340071, (some k84), (some (k83, true)), .mv (.t k4)⟩,
    ⟨340072, (some k85), (some (k83, true)), .mv (.t k0)⟩,
    ⟨340073, (some k86), (some (k83, true)), .mv (.t k1)⟩,
    ⟨340074, (some k87), (some (k83, true)), .bin .sub 0 (.t k86) (.c (.i .i64 (.ofNat 1)))⟩,
    ⟨340075, (some k88), (some (k83, true)), .ia 1 none (.t k85) (.t k87)⟩,
    ⟨340076, (some k89), (some (k83, true)), .load none (.t k88)⟩,
    ⟨340077, (some k90), (some (k83, true)), .mv (.t k0)⟩,
    ⟨340078, (some k91), (some (k83, true)), .mv (.t k13)⟩,
    ⟨340079, (some k92), (some (k83, true)), .ia 1 none (.t k90) (.t k91)⟩,
    ⟨340080, (some k93), (some (k83, true)), .load none (.t k92)⟩,
    ⟨340081, (some k94), (some (k83, true)), .call (.t k84) [(.t k89), (.t k93)]⟩,
    ⟨340082, (some k95), (some (k83, true)), .bin .lss 0 (.t k94) (.c (.i .i64 (.ofNat 0)))⟩,
    ⟨340083, (some k96), (some (k83, true)), .un .not (.t k95)⟩,
    ⟨340084, (some k97), none, .pick (.t k83) (.t k96) (.c (.b false))⟩]
def c34_52 : AC := .drw r34_51 [0, 1, 3, 7, 7, 7, 39, 119, 247, 7, 7, 1543, 3591, 8191, 16383, 32767, 65535]
def r34_53 : List GI := [⟨340085, (some k98), none, .mv (.t k0)⟩,
    ⟨340086, (some k99), none, .mv (.t k1)⟩,
    ⟨340087, (some k100), none, .mv (.t k2)⟩,
    ⟨340088, (some k101), none, .mv (.t k13)⟩,
    ⟨340089, (some k102), none, .mv (.t k4)⟩,
    ⟨340090, (some k103), none, .call (.fn 52) [(.t k98), (.t k99), (.t k100), (.t k101), (.t k102)]⟩,
    ⟨340091, (some k15), none, .mv (.t k103)⟩]
def c34_54 : AC := .reg r34_53
def r34_55 : List GI := [⟨340092, (some k104), none, .mv (.t k15)⟩,
    ⟨340093, (some k1), none, .mv (.t k104)⟩]
def c34_56 : AC := .reg r34_55
def c34_57 : AC := .seq c34_56 (.exit 1)
def c34_58 : AC := .seq c34_54 c34_57
def c34_59 : AC := .cond (.t k97) c34_58 .skip
def c34_60 : AC := .seq c34_52 c34_59
def r34_61 : List GI := [⟨340094, (some k106), none, .mv (.t k0)⟩,
    ⟨340095, (some k107), none, .mv (.t k1)⟩,
    ⟨340096, (some k108), none, .mv (.t k2)⟩,
    ⟨340097, (some k109), none, .mv (.t k13)⟩,
    ⟨340098, (some k110), none, .mv (.t k4)⟩,
    ⟨340099, (some k111), none, .call (.fn 53) [(.t k106), (.t k107), (.t k108), (.t k109), (.t k110)]⟩,
    ⟨340100, (some k105), none, .mv (.t k111)⟩,
    ⟨340101, (some k112), none, .ext 0 (.t k105)⟩,
    ⟨340102, (some k113), none, .ext 1 (.t k105)⟩,
    ⟨340103, (some k16), none, .mv (.t k112)⟩,
    ⟨340104, (some k17), none, .mv (.t k113)⟩]
def c34_62 : AC := .reg r34_61
def r34_63 : List GI := [⟨340105, (some k114), none, .mv (.t k17)⟩,
    ⟨340106, (some k11), none, .mv (.t k114)⟩]
def c34_64 : AC := .reg r34_63
def r34_65 : List GI := [⟨340107, (some k115), none, .mv (.t k16)⟩,
    ⟨340108, (some k116), none, .mv (.t k1)⟩,
    ⟨340109, (some k117), none, .bin .sub 0 (.t k115) (.t k116)⟩,
    ⟨340110, (some k118), none, .mv (.t k2)⟩,
    ⟨340111, (some k119), none, .mv (.t k16)⟩,
    ⟨340112, (some k120), none, .bin .sub 0 (.t k118) (.t k119)⟩,
    ⟨340113, (some k18), none, .mv (.t k117)⟩,
    ⟨340114, (some k19), none, .mv (.t k120)⟩]
def c34_66 : AC := .reg r34_65
def r34_67 : List GI := [⟨340115, (some k121), none, .mv (.t k12)⟩,
    ⟨340116, (some k122), none, .bin .quo 0 (.t k121) (.c (.i .i64 (.ofNat 8)))⟩,
    ⟨340117, (some k20), none, .mv (.t k122)⟩]
def c34_68 : AC := .reg r34_67
def r34_69 : List GI := [⟨340118, (some k123), none, .mv (.t k18)⟩,
    ⟨340119, (some k124), none, .mv (.t k19)⟩,
    ⟨340120, (some k125), none, .bin .lss 0 (.t k123) (.t k124)⟩]
def c34_70 : AC := .reg r34_69
def r34_71 : List GI := [⟨340121, (some k126), none, .mv (.t k18)⟩,
    ⟨340122, (some k127), none, .mv (.t k20)⟩,
    ⟨340123, (some k128), none, .bin .geq 0 (.t k126) (.t k127)⟩,
    ⟨340124, (some k10), none, .mv (.t k128)⟩]
def c34_72 : AC := .reg r34_71
def r34_73 : List GI := [⟨340125, (some k129), none, .mv (.t k0)⟩,
    ⟨340126, (some k130), none, .mv (.t k1)⟩,
    ⟨340127, (some k131), none, .mv (.t k16)⟩,
    ⟨340128, (some k132), none, .mv (.t k3)⟩,
    ⟨340129, (some k133), none, .mv (.t k4)⟩,
    ⟨340130, (some k134), none, .call (.fn 34) [(.t k129), (.t k130), (.t k131), (.t k132), (.t k133)]⟩]
def c34_74 : AC := .reg r34_73
def r34_75 : List GI := [⟨340131, (some k135), none, .mv (.t k16)⟩,
    ⟨340132, (some k136), none, .bin .add 0 (.t k135) (.c (.i .i64 (.ofNat 1)))⟩,
    ⟨340133, (some k1), none, .mv (.t k136)⟩]
def c34_76 : AC := .reg r34_75
def c34_77 : AC := .seq c34_74 c34_76
def c34_78 : AC := .seq c34_72 c34_77
def r34_79 : List GI := [⟨340134, (some k137), none, .mv (.t k19)⟩,
    ⟨340135, (some k138), none, .mv (.t k20)⟩,
    ⟨340136, (some k139), none, .bin .geq 0 (.t k137) (.t k138)⟩,
    ⟨340137, (some k10), none, .mv (.t k139)⟩]
def c34_80 : AC := .reg r34_79
def r34_81 : List GI := [⟨340138, (some k140), none, .mv (.t k0)⟩,
    ⟨340139, (some k141), none, .mv (.t k16)⟩,
    ⟨340140, (some k142), none, .bin .add 0 (.t k141) (.c (.i .i64 (.ofNat 1)))⟩,
    ⟨340141, (some k143), none, .mv (.t k2)⟩,
    ⟨340142, (some k144), none, .mv (.t k3)⟩,
    ⟨340143, (some k145), none, .mv (.t k4)⟩,
    ⟨340144, (some k146), none, .call (.fn 34) [(.t k140), (.t k142), (.t k143), (.t k144), (.t k145)]⟩]
def c34_82 : AC := .reg r34_81
def r34_83 : List GI := [⟨340145, (some k147), none, .mv (.t k16)⟩,
    ⟨340146, (some k2), none, .mv (.t k147)⟩]
def c34_84 : AC := .reg r34_83
def c34_85 : AC := .seq c34_82 c34_84
def c34_86 : AC := .seq c34_80 c34_85
def c34_87 : AC := .cond (.t k125) c34_78 c34_86
def c34_88 : AC := .seq c34_70 c34_87
def c34_89 : AC := .seq c34_68 c34_88
def c34_90 : AC := .seq c34_66 c34_89
def c34_91 : AC := .seq c34_64 c34_90
def c34_92 : AC := .seq c34_62 c34_91
def c34_93 : AC := .seq c34_60 c34_92
def c34_94 : AC := .seq c34_50 c34_93
def c34_95 : AC := .seq c34_42 c34_94
def c34_96 : AC := .seq c34_30 c34_95
def c34_97 : AC := .seq c34_28 c34_96
def c34_98 : AC := .seq c34_19 c34_97
def c34_99 : AC := .seq c34_12 c34_98
def c34_100 : AC := .seq c34_5 c34_99
def c34_101 : AC := .blk 1 c34_100
def c34_102 : AC := .loop c34_101
def c34_103 : AC := .blk 0 c34_102
def c34_104 : AC := .seq c34_3 c34_103
def c34_105 : AC := .seq c34_1 c34_104
def a34 : AFn := ⟨148, [],
  c34_105⟩
theorem ok34 : chkF prog 34 a34 = true := by kernel_rfl
def r35_0 : List GI := [⟨350000, (some k2), none, .mv (.c (.i .i64 (.ofNat 0)))⟩]
def c35_1 : AC := .reg r35_0
def r35_2 : List GI := [⟨350001, (some k3), none, .mv (.t k0)⟩,
    ⟨350002, (some k4), none, .conv .u32 (.t k3)⟩,
    ⟨350003, (some k5), none, .call (.fn 54) [(.t k4)]⟩,
    ⟨350004, (some k2), none, .mv (.t k5)⟩]
def c35_3 : AC := .reg r35_2
def c35_4 : AC := .seq c35_3 .ret
def c35_5 : AC := .cond (.c (.b false)) c35_4 .skip
def r35_6 : List GI := [⟨350005, (some k6), none, .mv (.t k0)⟩,
    ⟨350006, (some k7), none, .call (.fn 55) [(.t k6)]⟩,
    ⟨350007, (some k2), none, .mv (.t k7)⟩]
def c35_7 : AC := .reg r35_6
def c35_8 : AC := .seq c35_7 .ret
def c35_9 : AC := .seq c35_5 c35_8
def c35_10 : AC := .seq c35_1 c35_9
def a35 : AFn := ⟨8, [.t k2],
  c35_10⟩
theorem ok35 : chkF prog 35 a35 = true := by kernel_rfl
def r36_0 : List GI := [⟨360000, (some k2), none, .mv (.c (.b false))⟩]
def c36_1 : AC := .reg r36_0
def r36_2 : List GI := [⟨360001, (some k3), none, .mv (.t k0)⟩,
    ⟨360002, (some k4), none, .mv (.t k0)⟩,
    ⟨360003, (some k5), none, .bin .neq 0 (.t k3) (.t k4)⟩,
    ⟨360004, (some k2), none, .mv (.t k5)⟩]
def c36_3 : AC := .reg r36_2
def c36_4 : AC := .seq c36_3 .ret
def c36_5 : AC := .seq c36_1 c36_4
def a36 : AFn := ⟨6, [.t k2],
  c36_5⟩
theorem ok36 : chkF prog 36 a36 = true := by kernel_rfl
def r37_0 : List GI := [⟨370000, (some k4), none, .mv (.c (.i .i64 (.ofNat 0)))⟩]
def c37_1 : AC := .reg r37_0
def r37_2 : List GI := [⟨370001, (some k6), none, .mv (.t k0)⟩,
    ⟨370002, (some k7), none, .len 0 (.t k6)⟩,
    ⟨370003, (some k8), none, .mv (.c (.i .i64 (.ofNat 0)))⟩]
def c37_3 : AC := .reg r37_2
def r37_4 : List GI := [⟨370004, (some k9), none, .bin .lss 0 (.t k8) (.t k7)⟩]
def c37_5 : AC := .reg r37_4
def c37_6 : AC := .cond (.t k9) .skip (.exit 0)
def r37_7 : List GI := [⟨370005, (some k10), none, .mv (.t k8)⟩,
    ⟨370006, (some k5), none, .mv (.t k10)⟩]
def c37_8 : AC := .reg r37_7
def r37_9 : List GI := [⟨370007, (some k11), none, .mv (.t k1)⟩,
    ⟨370008, (some k12), none, .mv (.t k0)⟩,
    ⟨370009, (some k13), none, .mv (.t k5)⟩,
    ⟨370010, (some k14), none, .ia 1 none (.t k12) (.t k13)⟩,
    ⟨370011, (some k15), none, .load none (.t k14)⟩,
    ⟨370012, (some k16), none, .call (.t k11) [(.t k15)]⟩]
def c37_10 : AC := .reg r37_9
def r37_11 : List GI := [⟨370013, (some k17), none, .mv (.t k5)⟩,
    ⟨370014, (some k4), none, .mv (.t k17)⟩]
def c37_12 : AC := .reg r37_11
def c37_13 : AC := .seq c37_12 .ret
def c37_14 : AC := .cond (.t k16) c37_13 .skip
def c37_15 : AC := .seq c37_10 c37_14
def c37_16 : AC := .seq c37_8 c37_15
def c37_17 : AC := .blk 1 c37_16
def r37_18 : List GI := [⟨370015, (some k18), none, .bin .add 0 (.t k8) (.c (.i .i64 (.ofNat 1)))⟩,
    ⟨370016, (some k8), none, .mv (.t k18)⟩]
def c37_19 : AC := .reg r37_18
def c37_20 : AC := .seq c37_17 c37_19
def c37_21 : AC := .seq c37_6 c37_20
def c37_22 : AC := .seq c37_5 c37_21
def c37_23 : AC := .loop c37_22
def c37_24 : AC := .blk 0 c37_23
def c37_25 : AC := .seq c37_3 c37_24
def r37_26 : List GI := [⟨370017, (some k4), none, .mv (.c (.i .i64 (.negSucc 0)))⟩]
def c37_27 : AC := .reg r37_26
def c37_28 : AC := .seq c37_27 .ret
def c37_29 : AC := .seq c37_25 c37_28
def c37_30 : AC := .seq c37_1 c37_29
def a37 : AFn := ⟨19, [.t k4],
  c37_30⟩
theorem ok37 : chkF prog 37 a37 = true := by kernel_rfl
def r38_0 : List GI := [⟨380000, (some k4), none, .mv (.c (.i .i64 (.ofNat 0)))⟩]
def c38_1 : AC := .reg r38_0
def r38_2 : List GI := [⟨380001, (some k6), none, .mv (.t k0)⟩,
    ⟨380002, (some k7), none, .len 0 (.t k6)⟩,
    ⟨380003, (some k8), none, .mv (.c (.i .i64 (.ofNat 0)))⟩]
def c38_3 : AC := .reg r38_2
def r38_4 : List GI := [⟨380004, (some k9), none, .bin .lss 0 (.t k8) (.t k7)⟩]
def c38_5 : AC := .reg r38_4
def c38_6 : AC := .cond (.t k9) .skip (.exit 0)
def r38_7 : List GI := [⟨380005, (some k10), none, .mv (.t k8)⟩,
    ⟨380006, (some k5), none, .mv (.t k10)⟩]
def c38_8 : AC := .reg r38_7
def r38_9 : List GI := [⟨380007, (some k11), none, .mv (.t k1)⟩,
    ⟨380008, (some k12), none, .mv (.t k0)⟩,
    ⟨380009, (some k13), none, .mv (.t k5)⟩,
    ⟨380010, (some k14), none, .ia 1 none (.t k12) (.t k13)⟩,
    ⟨380011, (some k15), none, .load none (.t k14)⟩,
    ⟨380012, (some k16), none, .bin .eql 0 (.t k11) (.t k15)⟩]
def c38_10 : AC := .reg r38_9
def r38_11 : List GI := [⟨380013, (some k17), none, .mv (.t k5)⟩,
    ⟨380014, (some k4), none, .mv (.t k17)⟩]
def c38_12 : AC := .reg r38_11
def c38_13 : AC := .seq c38_12 .ret
def c38_14 : AC := .cond (.t k16) c38_13 .skip
def c38_15 : AC := .seq c38_10 c38_14
def c38_16 : AC := .seq c38_8 c38_15
def c38_17 : AC := .blk 1 c38_16
def r38_18 : List GI := [⟨380015, (some k18), none, .bin .add 0 (.t k8) (.c (.i .i64 (.ofNat 1)))⟩,
    ⟨380016, (some k8), none, .mv (.t k18)⟩]
def c38_19 : AC := .reg r38_18
def c38_20 : AC := .seq c38_17 c38_19
def c38_21 : AC := .seq c38_6 c38_20
def c38_22 : AC := .seq c38_5 c38_21
def c38_23 : AC := .loop c38_22
def c38_24 : AC := .blk 0 c38_23
def c38_25 : AC := .seq c38_3 c38_24
def r38_26 : List GI := [⟨380017, (some k4), none, .mv (.c (.i .i64 (.negSucc 0)))⟩]
def c38_27 : AC := .reg r38_26
def c38_28 : AC := .seq c38_27 .ret
def c38_29 : AC := .seq c38_25 c38_28
def c38_30 : AC := .seq c38_1 c38_29
def a38 : AFn := ⟨19, [.t k4],
  c38_30⟩
theorem ok38 : chkF prog 38 a38 = true := by kernel_rfl
def r39_0 : List GI := [⟨390000, (some k2), none, .mv (.c .nilp)⟩]
def c39_1 : AC := .reg r39_0
def r39_2 : List GI := [⟨390001, (some k4), none, .build [(.i .i64 (.ofNat 0)), .nils, .nils, .nils, .nils, .nils, .nils, .nils, .nils, (.i .i64 (.ofNat 0)), .nils, .nils, (.i .i64 (.ofNat 0)), (.b false), .nils, (.i .i64 (.ofNat 0)), .nils, .nils] [(9, 1, (.c (.i .i64 (.ofNat 1))))]⟩,
    ⟨390002, (some k5), none, .box 94 (.t k4)⟩,
    ⟨390003, (some k3), none, .mv (.t k5)⟩]
def c39_3 : AC := .reg r39_2
def r39_4 : List GI := [⟨390004, (some k6), none, .mv (.t k3)⟩,
    ⟨390005, (some k7), none, .mv (.t k0)⟩,
    ⟨390006, (some k8), none, .mm true [(.t k7), (.c (.i .i64 (.ofNat 0)))]⟩,
    ⟨390007, (some k9), none, .mm false [(.t k8), (.c (.i .i64 (.ofNat 1048576)))]⟩,
    ⟨390008, (some k10), none, .call (.fn 56) [(.t k6), (.t k9)]⟩]
def c39_5 : AC := .reg r39_4
def r39_6 : List GI := [⟨390009, (some k11), none, .mv (.t k3)⟩,
    ⟨390010, (some k2), none, .mv (.t k11)⟩]
def c39_7 : AC := .reg r39_6
def c39_8 : AC := .seq c39_7 .ret
def c39_9 : AC := .seq c39_5 c39_8
def c39_10 : AC := .seq c39_3 c39_9
def c39_11 : AC := .seq c39_1 c39_10
def a39 : AFn := ⟨12, [.t k2],
  c39_11⟩
theorem ok39 : chkF prog 39 a39 = true := by kernel_rfl
def r40_0 : List GI := [⟨400000, (some k1), none, .box 41 (.t k0)⟩,
    ⟨400001, (some k2), none, .mv (.c (.i .i64 (.ofNat 0)))⟩]
def c40_1 : AC := .reg r40_0
def r40_2 : List GI := [⟨400002, (some k3), none, .fa 0 (.t k1)⟩,
    ⟨400003, (some k4), none, .load none (.t k3)⟩,
    ⟨400004, (some k5), none, .bin .add 0 (.c (.i .i64 (.ofNat 1))) (.t k4)⟩,
    ⟨400005, (some k6), none, .fa 1 (.t k1)⟩,
    ⟨400006, (some k7), none, .load none (.t k6)⟩,
    ⟨400007, (some k8), none, .len 0 (.t k7)⟩,
    ⟨400008, (some k9), none, .bin .add 0 (.t k5) (.t k8)⟩,
    ⟨400009, (some k2), none, .mv (.t k9)⟩]
def c40_3 : AC := .reg r40_2
def c40_4 : AC := .seq c40_3 .ret
def c40_5 : AC := .seq c40_1 c40_4
def a40 : AFn := ⟨10, [.t k2],
  c40_5⟩
theorem ok40 : chkF prog 40 a40 = true := by kernel_rfl
def r41_0 : List GI := [⟨410000, (some k2), none, .box 41 (.t k0)⟩,
    ⟨410001, (some k4), none, .mv (.c .nils)⟩]
def c41_1 : AC := .reg r41_0
def r41_2 : List GI := [⟨410002, (some k5), none, .new 96 [.nils]⟩]
def c41_3 : AC := .reg r41_2
def r41_4 : List GI := [⟨410003, (some k12), none, .mkf 57 [(.t k5)] []⟩,
    ⟨410004, (some k6), none, .mv (.t k12)⟩]
def c41_5 : AC := .reg r41_4
def r41_6 : List GI := [⟨410005, (some k13), none, .mv (.t k6)⟩,
    ⟨410006, (some k14), none, .mv (.t k1)⟩,
    ⟨410007, (some k15), none, .call (.fn 58) [(.c (.i .i64 (.ofNat 0))), (.t k14)]⟩,
    ⟨410008, (some k16), none, .un .neg (.t k15)⟩,
    ⟨410009, (some k17), none, .bsl 3 1 1 [(.i .i64 (.ofNat 0))] [(0, 1, (.t k16))]⟩,
    ⟨410010, (some k18), none, .call (.t k13) [(.t k17)]⟩]
def c41_7 : AC := .reg r41_6
def r41_8 : List GI := [⟨410011, (some k19), none, .fa 1 (.t k2)⟩,
    ⟨410012, (some k20), none, .load none (.t k19)⟩,
    ⟨410013, (some k21), none, .len 0 (.t k20)⟩,
    ⟨410014, (some k22), none, .mv (.c (.i .i64 (.ofNat 0)))⟩]
def c41_9 : AC := .reg r41_8
def r41_10 : List GI := [⟨410015, (some k23), none, .bin .lss 0 (.t k22) (.t k21)⟩]
def c41_11 : AC := .reg r41_10
def c41_12 : AC := .cond (.t k23) .skip (.exit 0)
def r41_13 : List GI := [⟨410016, (some k24), none, .mv (.t k22)⟩,
    ⟨410017, (some k25), none, .ia 2 none (.t k20) (.t k22)⟩,
    ⟨410018, (some k26), none, .load (some 2) (.t k25)⟩,
    ⟨410019, (some k8), none, .new 63 [(.i .i64 (.ofNat 0)), (.i .i64 (.ofNat 0))]⟩,
    ⟨410020, (some k7), none, .mv (.t k24)⟩,
    ⟨410021, none, none, .store 2 (.t k8) (.t k26)⟩]
def c41_14 : AC := .reg r41_13
def r41_15 : List GI := [⟨410022, (some k27), none, .fa 0 (.t k2)⟩,
    ⟨410023, (some k28), none, .load none (.t k27)⟩,
    ⟨410024, (some k29), none, .bin .add 0 (.c (.i .i64 (.ofNat 1))) (.t k28)⟩,
    ⟨410025, (some k30), none, .mv (.t k7)⟩,
    ⟨410026, (some k31), none, .bin .add 0 (.t k29) (.t k30)⟩,
    ⟨410027, (some k32), none, .bin .mul 0 (.c (.i .i64 (.ofNat 2))) (.t k31)⟩,
    ⟨410028, (some k33), none, .mv (.t k1)⟩,
    ⟨410029, (some k34), none, .call (.fn 58) [(.t k32), (.t k33)]⟩,
    ⟨410030, (some k9), none, .mv (.t k34)⟩]
def c41_16 : AC := .reg r41_15
def r41_17 : List GI := [⟨410031, (some k35), none, .ia 1 (some 2) (.t k8) (.c (.i .i64 (.ofNat 0)))⟩,
    ⟨410032, (some k36), none, .load none (.t k35)⟩,
    ⟨410033, (some k37), none, .mv (.t k1)⟩,
    ⟨410034, (some k38), none, .call (.fn 58) [(.t k36), (.t k37)]⟩,
    ⟨410035, (some k39), none, .ia 1 (some 2) (.t k8) (.c (.i .i64 (.ofNat 1)))⟩,
    ⟨410036, (some k40), none, .load none (.t k39)⟩,
    ⟨410037, (some k41), none, .mv (.t k1)⟩,
    ⟨410038, (some k42), none, .call (.fn 58) [(.t k40), (.t k41)]⟩,
    ⟨410039, (some k10), none, .mv (.t k38)⟩,
    ⟨410040, (some k11), none, .mv (.t k42)⟩]
def c41_18 : AC := .drw r41_17 [0, 1, 0, 7, 0, 16, 0, 127, 255, 511]
def r41_19 : List GI := [⟨410041, (some k43), none, .mv (.t k6)⟩,
    ⟨410042, (some k44), none, .mv (.t k9)⟩,
    ⟨410043, (some k45), none, .un .neg (.t k44)⟩,
    ⟨410044, (some k46), none, .mv (.t k10)⟩,
    ⟨410045, (some k47), none, .bsl 3 1 2 [(.i .i64 (.ofNat 0)), (.i .i64 (.ofNat 0))] [(0, 1, (.t k45)), (1, 1, (.t k46))]⟩,
    ⟨410046, (some k48), none, .call (.t k43) [(.t k47)]⟩]
def c41_20 : AC := .reg r41_19
def r41_21 : List GI := [⟨410047, (some k49), none, .mv (.t k6)⟩,
    ⟨410048, (some k50), none, .mv (.t k9)⟩,
    ⟨410049, (some k51), none, .un .neg (.t k50)⟩,
    ⟨410050, (some k52), none, .mv (.t k11)⟩,
    ⟨410051, (some k53), none, .bsl 3 1 2 [(.i .i64 (.ofNat 0)), (.i .i64 (.ofNat 0))] [(0, 1, (.t k51)), (1, 1, (.t k52))]⟩,
    ⟨410052, (some k54), none, .call (.t k49) [(.t k53)]⟩]
def c41_22 : AC := .reg r41_21
def r41_23 : List GI := [⟨410053, (some k55), none, .mv (.t k6)⟩,
    ⟨410054, (some k56), none, .mv (.t k9)⟩,
    ⟨410055, (some k57), none, .mv (.t k10)⟩,
    ⟨410056, (some k58), none, .un .neg (.t k57)⟩,
    ⟨410057, (some k59), none, .mv (.t k11)⟩,
    ⟨410058, (some k60), none, .un .neg (.t k59)⟩,
    ⟨410059, (some k61), none, .bsl 3 1 3 [(.i .i64 (.ofNat 0)), (.i .i64 (.ofNat 0)), (.i .i64 (.ofNat 0))] [(0, 1, (.t k56)), (1, 1, (.t k58)), (2, 1, (.t k60))]⟩,
    ⟨410060, (some k62), none, .call (.t k55) [(.t k61)]⟩]
def c41_24 : AC := .reg r41_23
def c41_25 : AC := .seq c41_22 c41_24
def c41_26 : AC := .seq c41_20 c41_25
def c41_27 : AC := .seq c41_18 c41_26
def c41_28 : AC := .seq c41_16 c41_27
def c41_29 : AC := .seq c41_14 c41_28
def c41_30 : AC := .blk 1 c41_29
def r41_31 : List GI := [⟨410061, (some k63), none, .bin .add 0 (.t k22) (.c (.i .i64 (.ofNat 1)))⟩,
    ⟨410062, (some k22), none, .mv (.t k63)⟩]
def c41_32 : AC := .reg r41_31
def c41_33 : AC := .seq c41_30 c41_32
def c41_34 : AC := .seq c41_12 c41_33
def c41_35 : AC := .seq c41_11 c41_34
def c41_36 : AC := .loop c41_35
def c41_37 : AC := .blk 0 c41_36
def c41_38 : AC := .seq c41_9 c41_37
def r41_39 : List GI := [⟨410063, (some k64), none, .load none (.t k5)⟩,
    ⟨410064, (some k4), none, .mv (.t k64)⟩]
def c41_40 : AC := .reg r41_39
def c41_41 : AC := .seq c41_40 .ret
def c41_42 : AC := .seq c41_38 c41_41
def c41_43 : AC := .seq c41_7 c41_42
def c41_44 : AC := .seq c41_5 c41_43
def c41_45 : AC := .seq c41_3 c41_44
def c41_46 : AC := .seq c41_1 c41_45
def a41 : AFn := ⟨65, [.t k4],
  c41_46⟩
theorem ok41 : chkF prog 41 a41 = true := by kernel_rfl
def r42_0 : List GI := [⟨420000, (some k7), none, .mv (.t k0)⟩,
    ⟨420001, (some k8), none, .call (.fn 59) [(.t k7)]⟩]
def c42_1 : AC := .reg r42_0
def r42_2 : List GI := [⟨420002, (some k9), none, .mv (.t k0)⟩,
    ⟨420003, (some k10), none, .mv (.t k1)⟩,
    ⟨420004, (some k11), none, .call (.fn 60) [(.t k9), (.t k10)]⟩,
    ⟨420005, (some k12), none, .un .not (.t k11)⟩]
def c42_3 : AC := .reg r42_2
def c42_4 : AC := .cond (.t k12) .ret .skip
def c42_5 : AC := .seq c42_3 c42_4
def r42_6 : List GI := [⟨420006, (some k13), none, .mv (.t k0)⟩,
    ⟨420007, (some k14), none, .call (.fn 61) [(.t k13), (.c (.i .i64 (.ofNat 0)))]⟩]
def c42_7 : AC := .reg r42_6
def r42_8 : List GI := [⟨420008, (some k4), none, .mv (.c .nils)⟩]
def c42_9 : AC := .reg r42_8
def r42_10 : List GI := [⟨420009, (some k15), none, .mv (.t k1)⟩,
    ⟨420010, (some k16), none, .len 0 (.t k15)⟩,
    ⟨420011, (some k17), none, .mv (.c (.i .i64 (.ofNat 0)))⟩]
def c42_11 : AC := .reg r42_10
def r42_12 : List GI := [⟨420012, (some k18), none, .bin .lss 0 (.t k17) (.t k16)⟩]
def c42_13 : AC := .reg r42_12
def c42_14 : AC := .cond (.t k18) .skip (.exit 0)
def r42_15 : List GI := [⟨420013, (some k19), none, .ia 1 none (.t k15) (.t k17)⟩,
    ⟨420014, (some k20), none, .load none (.t k19)⟩,
    ⟨420015, (some k6), none, .mv (.t k20)⟩]
def c42_16 : AC := .reg r42_15
def r42_17 : List GI := [⟨420016, (some k21), none, .mv (.t k0)⟩,
    ⟨420017, (some k22), none, .mv (.t k6)⟩,
    ⟨420018, (some k23), none, .call (.fn 62) [(.t k21), (.t k22)]⟩,
    ⟨420019, (some k24), none, .bin .eql 0 (.t k23) (.c (.i .i64 (.ofNat 1)))⟩,
    ⟨420020, (some k25), none, .mv (.t k24)⟩,
    ⟨420021, (some k26), (some (k25, false)), .mv (.t k1)⟩,
    ⟨420022, (some k27), (some (k25, false)), .mv (.t k6)⟩,
    ⟨420023, (some k28), (some (k25, false)), .un .neg (.t k27)⟩,
    ⟨420024, (some k29), (some (k25, false)), .call (.fn 29) [(.t k26), (.t k28)]⟩,
    ⟨420025, (some k30), none, .pick (.t k25) (.c (.b true)) (.t k29)⟩]
def c42_18 : AC := .reg r42_17
def c42_19 : AC := .cond (.t k30) .ret .skip
def c42_20 : AC := .seq c42_18 c42_19
def r42_21 : List GI := [⟨420026, (some k31), none, .mv (.t k0)⟩,
    ⟨420027, (some k32), none, .mv (.t k6)⟩,
    ⟨420028, (some k33), none, .call (.fn 62) [(.t k31), (.t k32)]⟩,
    ⟨420029, (some k34), none, .bin .eql 0 (.t k33) (.c (.i .i64 (.ofNat 0)))⟩,
    ⟨420030, (some k35), none, .mv (.t k34)⟩,
    ⟨420031, (some k36), (some (k35, true)), .mv (.t k4)⟩,
    ⟨420032, (some k37), (some (k35, true)), .mv (.t k6)⟩,
    ⟨420033, (some k38), (some (k35, true)), .call (.fn 29) [(.t k36), (.t k37)]⟩,
    ⟨420034, (some k39), (some (k35, true)), .un .not (.t k38)⟩,
    ⟨420035, (some k40), none, .pick (.t k35) (.t k39) (.c (.b false))⟩]
def c42_22 : AC := .reg r42_21
def r42_23 : List GI := [⟨420036, (some k41), none, .mv (.t k4)⟩,
    ⟨420037, (some k42), none, .mv (.t k6)⟩,
    ⟨420038, (some k43), none, .bsl 3 1 1 [(.i .i64 (.ofNat 0))] [(0, 1, (.t k42))]⟩,
    ⟨420039, (some k44), none, .app 3 1 (.t k41) (.t k43)⟩,
    ⟨420040, (some k4), none, .mv (.t k44)⟩]
def c42_24 : AC := .reg r42_23
def c42_25 : AC := .cond (.t k40) c42_24 .skip
def c42_26 : AC := .seq c42_22 c42_25
def c42_27 : AC := .seq c42_20 c42_26
def c42_28 : AC := .seq c42_16 c42_27
def c42_29 : AC := .blk 1 c42_28
def r42_30 : List GI := [⟨420041, (some k45), none, .bin .add 0 (.t k17) (.c (.i .i64 (.ofNat 1)))⟩,
    ⟨420042, (some k17), none, .mv (.t k45)⟩]
def c42_31 : AC := .reg r42_30
def c42_32 : AC := .seq c42_29 c42_31
def c42_33 : AC := .seq c42_14 c42_32
def c42_34 : AC := .seq c42_13 c42_33
def c42_35 : AC := .loop c42_34
def c42_36 : AC := .blk 0 c42_35
def c42_37 : AC := .seq c42_11 c42_36
def r42_38 : List GI := [⟨420043, (some k46), none, .mv (.t k4)⟩,
    ⟨420044, (some k47), none, .len 0 (.t k46)⟩]
def c42_39 : AC := .reg r42_38
def r42_40 : List GI := [⟨420045, (some k52), none, .bin .eql 0 (.t k47) (.c (.i .i64 (.ofNat 0)))⟩,
    ⟨420046, (some k51), none, .mv (.t k52)⟩]
def c42_41 : AC := .reg r42_40
def r42_42 : List GI := [⟨420047, (some k53), none, .mv (.t k0)⟩,
    ⟨420048, (some k54), none, .nilc (.t k53)⟩,
    ⟨420049, (some k55), none, .fa 13 (.t k54)⟩,
    ⟨420050, none, none, .store 1 (.t k55) (.c (.b true))⟩]
def c42_43 : AC := .reg r42_42
def r42_44 : List GI := [⟨420051, (some k57), none, .bin .eql 0 (.t k47) (.c (.i .i64 (.ofNat 1)))⟩,
    ⟨420052, (some k56), none, .mv (.t k57)⟩]
def c42_45 : AC := .reg r42_44
def r42_46 : List GI := [⟨420053, (some k58), none, .mv (.t k0)⟩,
    ⟨420054, (some k59), none, .mv (.t k4)⟩,
    ⟨420055, (some k60), none, .ia 1 none (.t k59) (.c (.i .i64 (.ofNat 0)))⟩,
    ⟨420056, (some k61), none, .load none (.t k60)⟩,
    ⟨420057, (some k62), none, .call (.fn 63) [(.t k58), (.t k61), (.c (.i .i64 (.negSucc 0)))]⟩]
def c42_47 : AC := .reg r42_46
def r42_48 : List GI := [⟨420058, (some k48), none, .mv (.t k0)⟩,
    ⟨420059, (some k49), none, .mv (.t k4)⟩,
    ⟨420060, (some k50), none, .call (.fn 64) [(.t k48), (.t k49)]⟩]
def c42_49 : AC := .reg r42_48
def c42_50 : AC := .cond (.t k56) c42_47 c42_49
def c42_51 : AC := .seq c42_45 c42_50
def c42_52 : AC := .cond (.t k51) c42_43 c42_51
def c42_53 : AC := .seq c42_41 c42_52
def c42_54 : AC := .blk 2 c42_53
def c42_55 : AC := .seq c42_39 c42_54
def c42_56 : AC := .seq c42_37 c42_55
def c42_57 : AC := .seq c42_9 c42_56
def c42_58 : AC := .seq c42_7 c42_57
def c42_59 : AC := .seq c42_5 c42_58
def c42_60 : AC := .seq c42_1 c42_59
def a42 : AFn := ⟨63, [],
  c42_60⟩
theorem ok42 : chkF prog 42 a42 = true := by kernel_rfl
def r43_0 : List GI := [⟨430000, (some k3), none, .box 46 (.t k0)⟩,
    ⟨430001, (some k6), none, .mv (.c .nils)⟩]
def c43_1 : AC := .reg r43_0
def r43_2 : List GI := [⟨430002, (some k7), none, .mv (.c .nils)⟩]
def c43_3 : AC := .reg r43_2
def r43_4 : List GI := [⟨430003, (some k14), none, .fa 4 (.t k3)⟩,
    ⟨430004, (some k15), none, .load none (.t k14)⟩,
    ⟨430005, (some k16), none, .len 0 (.t k15)⟩,
    ⟨430006, (some k17), none, .mv (.c (.i .i64 (.ofNat 0)))⟩]
def c43_5 : AC := .reg r43_4
def r43_6 : List GI := [⟨430007, (some k18), none, .bin .lss 0 (.t k17) (.t k16)⟩]
def c43_7 : AC := .reg r43_6
def c43_8 : AC := .cond (.t k18) .skip (.exit 0)
def r43_9 : List GI := [⟨430008, (some k19), none, .ia 3 none (.t k15) (.t k17)⟩,
    ⟨430009, (some k20), none, .load (some 3) (.t k19)⟩,
    ⟨430010, (some k9), none, .new 68 [(.i .i64 (.ofNat 0)), (.i .i64 (.ofNat 0)), (.i .i64 (.ofNat 0))]⟩,
    ⟨430011, none, none, .store 3 (.t k9) (.t k20)⟩]
def c43_10 : AC := .reg r43_9
def r43_11 : List GI := [⟨430012, (some k21), none, .fa 0 (.t k9)⟩,
    ⟨430013, (some k22), none, .load none (.t k21)⟩,
    ⟨430014, (some k23), none, .bin .eql 0 (.t k22) (.c (.i .i64 (.ofNat 9)))⟩]
def c43_12 : AC := .reg r43_11
def r43_13 : List GI := [⟨430015, (some k24), none, .mv (.t k7)⟩,
    ⟨430016, (some k25), none, .fa 1 (.t k9)⟩,
    ⟨430017, (some k26), none, .load none (.t k25)⟩,
    ⟨430018, (some k27), none, .call (.fn 44) [(.t k26)]⟩,
    ⟨430019, (some k28), none, .bsl 3 1 1 [(.i .i64 (.ofNat 0))] [(0, 1, (.t k27))]⟩,
    ⟨430020, (some k29), none, .app 3 1 (.t k24) (.t k28)⟩,
    ⟨430021, (some k7), none, .mv (.t k29)⟩]
def c43_14 : AC := .reg r43_13
def c43_15 : AC := .cond (.t k23) c43_14 .skip
def c43_16 : AC := .seq c43_12 c43_15
def c43_17 : AC := .seq c43_10 c43_16
def c43_18 : AC := .blk 1 c43_17
def r43_19 : List GI := [⟨430022, (some k30), none, .bin .add 0 (.t k17) (.c (.i .i64 (.ofNat 1)))⟩,
    ⟨430023, (some k17), none, .mv (.t k30)⟩]
def c43_20 : AC := .reg r43_19
def c43_21 : AC := .seq c43_18 c43_20
def c43_22 : AC := .seq c43_8 c43_21
def c43_23 : AC := .seq c43_7 c43_22
def c43_24 : AC := .loop c43_23
def c43_25 : AC := .blk 0 c43_24
def c43_26 : AC := .seq c43_5 c43_25
def r43_27 : List GI := [⟨430024, (some k31), none, .mv (.t k1)⟩,
    ⟨430025, (some k32), none, .len 0 (.t k31)⟩,
    ⟨430026, (some k33), none, .mv (.c (.i .i64 (.ofNat 0)))⟩]
def c43_28 : AC := .reg r43_27
def r43_29 : List GI := [⟨430027, (some k34), none, .bin .lss 0 (.t k33) (.t k32)⟩]
def c43_30 : AC := .reg r43_29
def c43_31 : AC := .cond (.t k34) .skip (.exit 2)
def r43_32 : List GI := [⟨430028, (some k35), none, .ia 1 none (.t k31) (.t k33)⟩,
    ⟨430029, (some k36), none, .load none (.t k35)⟩,
    ⟨430030, (some k11), none, .mv (.t k36)⟩]
def c43_33 : AC := .reg r43_32
def r43_34 : List GI := [⟨430031, (some k37), none, .fa 3 (.t k3)⟩,
    ⟨430032, (some k38), none, .load none (.t k37)⟩,
    ⟨430033, (some k39), none, .mv (.t k11)⟩,
    ⟨430034, (some k40), none, .call (.fn 24) [(.t k39)]⟩,
    ⟨430035, (some k41), none, .bin .sub 0 (.t k40) (.c (.i .i64 (.ofNat 1)))⟩,
    ⟨430036, (some k42), none, .ia 5 none (.t k38) (.t k41)⟩,
    ⟨430037, (some k43), none, .fa 1 (.t k42)⟩,
    ⟨430038, (some k44), none, .load none (.t k43)⟩,
    ⟨430039, (some k45), none, .call (.fn 44) [(.t k44)]⟩,
    ⟨430040, (some k12), none, .mv (.t k45)⟩]
def c43_35 : AC := .drw r43_34 [0, 1, 0, 4, 12, 31, 63, 127, 255, 511]
def r43_36 : List GI := [⟨430041, (some k46), none, .mv (.t k11)⟩,
    ⟨430042, (some k47), none, .bin .lss 0 (.t k46) (.c (.i .i64 (.ofNat 0)))⟩]
def c43_37 : AC := .reg r43_36
def r43_38 : List GI := [⟨430043, (some k48), none, .mv (.t k12)⟩,
    ⟨430044, (some k49), none, .un .neg (.t k48)⟩,
    ⟨430045, (some k12), none, .mv (.t k49)⟩]
def c43_39 : AC := .reg r43_38
def c43_40 : AC := .cond (.t k47) c43_39 .skip
def c43_41 : AC := .seq c43_37 c43_40
def r43_42 : List GI := [⟨430046, (some k50), none, .mv (.t k7)⟩,
    ⟨430047, (some k51), none, .mv (.t k12)⟩,
    ⟨430048, (some k52), none, .bsl 3 1 1 [(.i .i64 (.ofNat 0))] [(0, 1, (.t k51))]⟩,
    ⟨430049, (some k53), none, .app 3 1 (.t k50) (.t k52)⟩,
    ⟨430050, (some k7), none, .mv (.t k53)⟩]
def c43_43 : AC := .reg r43_42
def c43_44 : AC := .seq c43_41 c43_43
def c43_45 : AC := .seq c43_35 c43_44
def c43_46 : AC := .seq c43_33 c43_45
def c43_47 : AC := .blk 3 c43_46
def r43_48 : List GI := [⟨430051, (some k54), none, .bin .add 0 (.t k33) (.c (.i .i64 (.ofNat 1)))⟩,
    ⟨430052, (some k33), none, .mv (.t k54)⟩]
def c43_49 : AC := .reg r43_48
def c43_50 : AC := .seq c43_47 c43_49
def c43_51 : AC := .seq c43_31 c43_50
def c43_52 : AC := .seq c43_30 c43_51
def c43_53 : AC := .loop c43_52
def c43_54 : AC := .blk 2 c43_53
def c43_55 : AC := .seq c43_28 c43_54
def r43_56 : List GI := [⟨430053, (some k55), none, .mv (.t k1)⟩,
    ⟨430054, (some k56), none, .len 0 (.t k55)⟩,
    ⟨430055, (some k57), none, .bin .eql 0 (.t k56) (.c (.i .i64 (.ofNat 0)))⟩]
def c43_57 : AC := .reg r43_56
def r43_58 : List GI := [⟨430056, (some k58), none, .fa 4 (.t k3)⟩,
    ⟨430057, (some k59), none, .load none (.t k58)⟩,
    ⟨430058, (some k60), none, .mv (.t k2)⟩,
    ⟨430059, (some k61), none, .ia 3 none (.t k59) (.t k60)⟩,
    ⟨430060, (some k62), none, .fa 1 (.t k61)⟩,
    ⟨430061, (some k63), none, .load none (.t k62)⟩,
    ⟨430062, (some k64), none, .call (.fn 44) [(.t k63)]⟩,
    ⟨430063, (some k13), none, .mv (.t k64)⟩]
def c43_59 : AC := .reg r43_58
def r43_60 : List GI := [⟨430064, (some k65), none, .fa 4 (.t k3)⟩,
    ⟨430065, (some k66), none, .load none (.t k65)⟩,
    ⟨430066, (some k67), none, .mv (.t k2)⟩,
    ⟨430067, (some k68), none, .ia 3 none (.t k66) (.t k67)⟩,
    ⟨430068, (some k69), none, .fa 0 (.t k68)⟩,
    ⟨430069, (some k70), none, .load none (.t k69)⟩,
    ⟨430070, (some k71), none, .bin .eql 0 (.t k70) (.c (.i .i64 (.ofNat 8)))⟩]
def c43_61 : AC := .reg r43_60
def r43_62 : List GI := [⟨430071, (some k72), none, .mv (.t k13)⟩,
    ⟨430072, (some k73), none, .un .neg (.t k72)⟩,
    ⟨430073, (some k13), none, .mv (.t k73)⟩]
def c43_63 : AC := .reg r43_62
def c43_64 : AC := .cond (.t k71) c43_63 .skip
def c43_65 : AC := .seq c43_61 c43_64
def r43_66 : List GI := [⟨430074, (some k74), none, .mv (.t k7)⟩,
    ⟨430075, (some k75), none, .mv (.t k13)⟩,
    ⟨430076, (some k76), none, .bsl 3 1 1 [(.i .i64 (.ofNat 0))] [(0, 1, (.t k75))]⟩,
    ⟨430077, (some k77), none, .app 3 1 (.t k74) (.t k76)⟩,
    ⟨430078, (some k7), none, .mv (.t k77)⟩]
def c43_67 : AC := .reg r43_66
def c43_68 : AC := .seq c43_65 c43_67
def c43_69 : AC := .seq c43_59 c43_68
def c43_70 : AC := .cond (.t k57) c43_69 .skip
def c43_71 : AC := .seq c43_57 c43_70
def r43_72 : List GI := [⟨430079, (some k78), none, .mv (.t k7)⟩,
    ⟨430080, (some k6), none, .mv (.t k78)⟩]
def c43_73 : AC := .reg r43_72
def c43_74 : AC := .seq c43_73 .ret
def c43_75 : AC := .seq c43_71 c43_74
def c43_76 : AC := .seq c43_55 c43_75
def c43_77 : AC := .seq c43_26 c43_76
def c43_78 : AC := .seq c43_3 c43_77
def c43_79 : AC := .seq c43_1 c43_78
def a43 : AFn := ⟨79, [.t k6],
  c43_79⟩
theorem ok43 : chkF prog 43 a43 = true := by kernel_rfl
def r44_0 : List GI := [⟨440000, (some k2), none, .mv (.c (.i .i64 (.ofNat 0)))⟩]
def c44_1 : AC := .reg r44_0
def r44_2 : List GI := [⟨440001, (some k3), none, .mv (.t k0)⟩,
    ⟨440002, (some k4), none, .call (.fn 58) [(.t k3), (.c (.i .i64 (.ofNat 0)))]⟩,
    ⟨440003, (some k2), none, .mv (.t k4)⟩]
def c44_3 : AC := .reg r44_2
def c44_4 : AC := .seq c44_3 .ret
def c44_5 : AC := .seq c44_1 c44_4
def a44 : AFn := ⟨5, [.t k2],
  c44_5⟩
theorem ok44 : chkF prog 44 a44 = true := by kernel_rfl
def r45_0 : List GI := [⟨450000, (some k6), none, .mv (.c (.i .i64 (.ofNat 0)))⟩]
def c45_1 : AC := .reg r45_0
def r45_2 : List GI := [⟨450001, (some k11), none, .mv (.t k0)⟩,
    ⟨450002, (some k12), none, .call (.fn 59) [(.t k11)]⟩]
def c45_3 : AC := .reg r45_2
def r45_4 : List GI := [⟨450003, (some k13), none, .mv (.t k0)⟩,
    ⟨450004, (some k14), none, .mv (.t k1)⟩,
    ⟨450005, (some k15), none, .call (.fn 60) [(.t k13), (.t k14)]⟩,
    ⟨450006, (some k16), none, .un .not (.t k15)⟩]
def c45_5 : AC := .reg r45_4
def r45_6 : List GI := [⟨450007, (some k6), none, .mv (.c (.i .i64 (.ofNat 0)))⟩]
def c45_7 : AC := .reg r45_6
def c45_8 : AC := .seq c45_7 .ret
def c45_9 : AC := .cond (.t k16) c45_8 .skip
def c45_10 : AC := .seq c45_5 c45_9
def r45_11 : List GI := [⟨450008, (some k17), none, .mv (.t k0)⟩,
    ⟨450009, (some k18), none, .call (.fn 61) [(.t k17), (.c (.i .i64 (.ofNat 0)))]⟩]
def c45_12 : AC := .reg r45_11
def r45_13 : List GI := [⟨450010, (some k19), none, .mv (.t k0)⟩,
    ⟨450011, (some k20), none, .nilc (.t k19)⟩,
    ⟨450012, (some k21), none, .fa 15 (.t k20)⟩,
    ⟨450013, none, none, .store 1 (.t k21) (.c (.i .i64 (.ofNat 2)))⟩]
def c45_14 : AC := .reg r45_13
def r45_15 : List GI := [⟨450014, (some k22), none, .mv (.t k0)⟩,
    ⟨450015, (some k23), none, .nilc (.t k22)⟩,
    ⟨450016, (some k24), none, .fa 13 (.t k23)⟩,
    ⟨450017, (some k25), none, .load none (.t k24)⟩,
    ⟨450018, (some k26), none, .un .not (.t k25)⟩]
def c45_16 : AC := .reg r45_15
def r45_17 : List GI := [⟨450019, (some k27), none, .mv (.t k0)⟩,
    ⟨450020, (some k28), none, .mv (.t k0)⟩,
    ⟨450021, (some k29), none, .mv (.t k1)⟩,
    ⟨450022, (some k30), none, .mv (.t k2)⟩,
    ⟨450023, (some k31), none, .call (.fn 65) [(.t k28), (.t k29), (.t k30)]⟩,
    ⟨450024, (some k32), none, .nilc (.t k27)⟩,
    ⟨450025, (some k33), none, .fa 15 (.t k32)⟩,
    ⟨450026, none, none, .store 1 (.t k33) (.t k31)⟩]
def c45_18 : AC := .reg r45_17
def c45_19 : AC := .cond (.t k26) c45_18 .skip
def c45_20 : AC := .seq c45_16 c45_19
def r45_21 : List GI := [⟨450027, (some k34), none, .mv (.t k0)⟩,
    ⟨450028, (some k35), none, .nilc (.t k34)⟩,
    ⟨450029, (some k36), none, .fa 15 (.t k35)⟩,
    ⟨450030, (some k37), none, .load none (.t k36)⟩]
def c45_22 : AC := .reg r45_21
def r45_23 : List GI := [⟨450031, (some k39), none, .bin .eql 0 (.t k37) (.c (.i .i64 (.ofNat 1)))⟩,
    ⟨450032, (some k38), none, .mv (.t k39)⟩]
def c45_24 : AC := .reg r45_23
def r45_25 : List GI := [⟨450033, (some k7), none, .mv (.c (.i .i64 (.ofNat 1)))⟩]
def c45_26 : AC := .reg r45_25
def r45_27 : List GI := [⟨450034, (some k40), none, .mv (.t k7)⟩,
    ⟨450035, (some k41), none, .mv (.t k0)⟩,
    ⟨450036, (some k42), none, .nilc (.t k41)⟩,
    ⟨450037, (some k43), none, .fa 0 (.t k42)⟩,
    ⟨450038, (some k44), none, .load none (.t k43)⟩,
    ⟨450039, (some k45), none, .bin .leq 0 (.t k40) (.t k44)⟩]
def c45_28 : AC := .reg r45_27
def c45_29 : AC := .cond (.t k45) .skip (.exit 1)
def c45_30 : AC := .seq c45_28 c45_29
def r45_31 : List GI := [⟨450040, (some k48), none, .mv (.t k0)⟩,
    ⟨450041, (some k49), none, .mv (.t k0)⟩,
    ⟨450042, (some k50), none, .nilc (.t k49)⟩,
    ⟨450043, (some k51), none, .fa 17 (.t k50)⟩,
    ⟨450044, (some k52), none, .load none (.t k51)⟩,
    ⟨450045, (some k53), none, .mv (.t k0)⟩,
    ⟨450046, (some k54), none, .nilc (.t k53)⟩,
    ⟨450047, (some k55), none, .fa 3 (.t k54)⟩,
    ⟨450048, (some k56), none, .load none (.t k55)⟩,
    ⟨450049, (some k57), none, .mv (.t k7)⟩,
    ⟨450050, (some k58), none, .ia 1 none (.t k56) (.t k57)⟩,
    ⟨450051, (some k59), none, .load none (.t k58)⟩,
    ⟨450052, (some k60), none, .bin .eql 0 (.t k59) (.c (.i .i64 (.ofNat 1)))⟩,
    ⟨450053, (some k61), none, .bsl 4 1 1 [(.b false)] [(0, 1, (.t k60))]⟩,
    ⟨450054, (some k62), none, .app 4 1 (.t k52) (.t k61)⟩,
    ⟨450055, (some k63), none, .nilc (.t k48)⟩,
    ⟨450056, (some k64), none, .fa 17 (.t k63)⟩,
    ⟨450057, none, none, .store 1 (.t k64) (.t k62)⟩]
def c45_32 : AC := .drw r45_31 [0, 0, 2, 6, 14, 0, 32, 96, 224, 0, 992, 2016, 4064, 8160, 16382, 32767, 65535, 131071]
def c45_33 : AC := .blk 2 c45_32
def r45_34 : List GI := [⟨450058, (some k46), none, .mv (.t k7)⟩,
    ⟨450059, (some k47), none, .bin .add 0 (.t k46) (.c (.i .i64 (.ofNat 1)))⟩,
    ⟨450060, (some k7), none, .mv (.t k47)⟩]
def c45_35 : AC := .reg r45_34
def c45_36 : AC := .seq c45_33 c45_35
def c45_37 : AC := .seq c45_30 c45_36
def c45_38 : AC := .loop c45_37
def c45_39 : AC := .blk 1 c45_38
def c45_40 : AC := .seq c45_26 c45_39
def r45_41 : List GI := [⟨450061, (some k66), none, .bin .eql 0 (.t k37) (.c (.i .i64 (.ofNat 2)))⟩,
    ⟨450062, (some k65), none, .mv (.t k66)⟩]
def c45_42 : AC := .reg r45_41
def r45_43 : List GI := [⟨450063, (some k8), none, .mv (.c .nils)⟩]
def c45_44 : AC := .reg r45_43
def r45_45 : List GI := [⟨450064, (some k67), none, .mv (.t k1)⟩,
    ⟨450065, (some k68), none, .len 0 (.t k67)⟩,
    ⟨450066, (some k69), none, .mv (.c (.i .i64 (.ofNat 0)))⟩]
def c45_46 : AC := .reg r45_45
def r45_47 : List GI := [⟨450067, (some k70), none, .bin .lss 0 (.t k69) (.t k68)⟩]
def c45_48 : AC := .reg r45_47
def c45_49 : AC := .cond (.t k70) .skip (.exit 3)
def r45_50 : List GI := [⟨450068, (some k71), none, .ia 1 none (.t k67) (.t k69)⟩,
    ⟨450069, (some k72), none, .load none (.t k71)⟩,
    ⟨450070, (some k10), none, .mv (.t k72)⟩]
def c45_51 : AC := .reg r45_50
def r45_52 : List GI := [⟨450071, (some k73), none, .mv (.t k0)⟩,
    ⟨450072, (some k74), none, .nilc (.t k73)⟩,
    ⟨450073, (some k75), none, .fa 16 (.t k74)⟩,
    ⟨450074, (some k76), none, .load none (.t k75)⟩,
    ⟨450075, (some k77), none, .mv (.t k10)⟩,
    ⟨450076, (some k78), none, .call (.fn 29) [(.t k76), (.t k77)]⟩,
    ⟨450077, (some k79), none, .mv (.t k78)⟩,
    ⟨450078, (some k80), (some (k79, true)), .mv (.t k8)⟩,
    ⟨450079, (some k81), (some (k79, true)), .mv (.t k10)⟩,
    ⟨450080, (some k82), (some (k79, true)), .call (.fn 29) [(.t k80), (.t k81)]⟩,
    ⟨450081, (some k83), (some (k79, true)), .un .not (.t k82)⟩,
    ⟨450082, (some k84), none, .pick (.t k79) (.t k83) (.c (.b false))⟩]
def c45_53 : AC := .reg r45_52
def r45_54 : List GI := [⟨450083, (some k85), none, .mv (.t k8)⟩,
    ⟨450084, (some k86), none, .mv (.t k10)⟩,
    ⟨450085, (some k87), none, .bsl 3 1 1 [(.i .i64 (.ofNat 0))] [(0, 1, (.t k86))]⟩,
    ⟨450086, (some k88), none, .app 3 1 (.t k85) (.t k87)⟩,
    ⟨450087, (some k8), none, .mv (.t k88)⟩]
def c45_55 : AC := .reg r45_54
def c45_56 : AC := .cond (.t k84) c45_55 .skip
def c45_57 : AC := .seq c45_53 c45_56
def c45_58 : AC := .seq c45_51 c45_57
def c45_59 : AC := .blk 4 c45_58
def r45_60 : List GI := [⟨450088, (some k89), none, .bin .add 0 (.t k69) (.c (.i .i64 (.ofNat 1)))⟩,
    ⟨450089, (some k69), none, .mv (.t k89)⟩]
def c45_61 : AC := .reg r45_60
def c45_62 : AC := .seq c45_59 c45_61
def c45_63 : AC := .seq c45_49 c45_62
def c45_64 : AC := .seq c45_48 c45_63
def c45_65 : AC := .loop c45_64
def c45_66 : AC := .blk 3 c45_65
def c45_67 : AC := .seq c45_46 c45_66
def r45_68 : List GI := [⟨450090, (some k90), none, .mv (.t k0)⟩,
    ⟨450091, (some k91), none, .mv (.t k8)⟩,
    ⟨450092, (some k92), none, .nilc (.t k90)⟩,
    ⟨450093, (some k93), none, .fa 16 (.t k92)⟩,
    ⟨450094, none, none, .store 1 (.t k93) (.t k91)⟩]
def c45_69 : AC := .reg r45_68
def c45_70 : AC := .seq c45_67 c45_69
def c45_71 : AC := .seq c45_44 c45_70
def c45_72 : AC := .cond (.t k65) c45_71 .skip
def c45_73 : AC := .seq c45_42 c45_72
def c45_74 : AC := .cond (.t k38) c45_40 c45_73
def c45_75 : AC := .seq c45_24 c45_74
def c45_76 : AC := .blk 0 c45_75
def c45_77 : AC := .seq c45_22 c45_76
def r45_78 : List GI := [⟨450095, (some k94), none, .mv (.t k0)⟩,
    ⟨450096, (some k95), none, .call (.fn 61) [(.t k94), (.c (.i .i64 (.ofNat 0)))]⟩]
def c45_79 : AC := .reg r45_78
def r45_80 : List GI := [⟨450097, (some k96), none, .mv (.t k0)⟩,
    ⟨450098, (some k97), none, .nilc (.t k96)⟩,
    ⟨450099, (some k98), none, .fa 15 (.t k97)⟩,
    ⟨450100, (some k99), none, .load none (.t k98)⟩,
    ⟨450101, (some k6), none, .mv (.t k99)⟩]
def c45_81 : AC := .reg r45_80
def c45_82 : AC := .seq c45_81 .ret
def c45_83 : AC := .seq c45_79 c45_82
def c45_84 : AC := .seq c45_77 c45_83
def c45_85 : AC := .seq c45_20 c45_84
def c45_86 : AC := .seq c45_14 c45_85
def c45_87 : AC := .seq c45_12 c45_86
def c45_88 : AC := .seq c45_10 c45_87
def c45_89 : AC := .seq c45_3 c45_88
def c45_90 : AC := .seq c45_1 c45_89
def a45 : AFn := ⟨100, [.t k6],
  c45_90⟩
theorem ok45 : chkF prog 45 a45 = true := by kernel_rfl
def r46_0 : List GI := [⟨460000, (some k10), none, .mv (.t k1)⟩,
    ⟨460001, (some k11), none, .bin .add 0 (.t k10) (.c (.i .i64 (.ofNat 1)))⟩,
    ⟨460002, (some k8), none, .mv (.t k11)⟩]
def c46_1 : AC := .reg r46_0
def r46_2 : List GI := [⟨460003, (some k12), none, .mv (.t k8)⟩,
    ⟨460004, (some k13), none, .mv (.t k2)⟩,
    ⟨460005, (some k14), none, .bin .lss 0 (.t k12) (.t k13)⟩]
def c46_3 : AC := .reg r46_2
def c46_4 : AC := .cond (.t k14) .skip (.exit 0)
def c46_5 : AC := .seq c46_3 c46_4
def r46_6 : List GI := [⟨460006, (some k17), none, .mv (.t k8)⟩,
    ⟨460007, (some k9), none, .mv (.t k17)⟩]
def c46_7 : AC := .reg r46_6
def r46_8 : List GI := [⟨460008, (some k18), none, .mv (.t k9)⟩,
    ⟨460009, (some k19), none, .mv (.t k1)⟩,
    ⟨460010, (some k20), none, .bin .gtr 0 (.t k18) (.t k19)⟩,
    ⟨460011, (some k21), none, .mv (.t k20)⟩,
    ⟨460012, (some k22), (some (k21, true)), .mv (.t k3)⟩,
    ⟨460013, (some k23), (some (k21, true)), .mv (.t k0)⟩,
    ⟨460014, (some k24), (some (k21, true)), .mv (.t k9)⟩,
    ⟨460015, (some k25), (some (k21, true)), .ia 1 none (.t k23) (.t k24)⟩,
    ⟨460016, (some k26), (some (k21, true)), .load none (.t k25)⟩,
    ⟨460017, (some k27), (some (k21, true)), .mv (.t k0)⟩,
    ⟨460018, (some k28), (some (k21, true)), .mv (.t k9)⟩,
    ⟨460019, (some k29), (some (k21, true)), .bin .sub 0 (.t k28) (.c (.i .i64 (.ofNat 1)))⟩,
    ⟨460020, (some k30), (some (k21, true)), .ia 1 none (.t k27) (.t k29)⟩,
    ⟨460021, (some k31), (some (k21, true)), .load none (.t k30)⟩,
    ⟨460022, (some k32), (some (k21, true)), .call (.t k22) [(.t k26), (.t k31)]⟩,
    ⟨460023, (some k33), (some (k21, true)), .bin .lss 0 (.t k32) (.c (.i .i64 (.ofNat 0)))⟩,
    ⟨460024, (some k34), none, .pick (.t k21) (.t k33) (.c (.b false))⟩]
def c46_9 : AC := .drw r46_8 [0, 0, 3, 7, 15, 15, 15, 111, 239, 15, 15, 1039, 3599, 7695, 16383, 32767, 65535]
def c46_10 : AC := .cond (.t k34) .skip (.exit 2)
def c46_11 : AC := .seq c46_9 c46_10
def r46_12 : List GI := [⟨460025, (some k37), none, .mv (.t k0)⟩,
    ⟨460026, (some k38), none, .mv (.t k9)⟩,
    ⟨460027, (some k39), none, .mv (.t k0)⟩,
    ⟨460028, (some k40), none, .mv (.t k9)⟩,
    ⟨460029, (some k41), none, .bin .sub 0 (.t k40) (.c (.i .i64 (.ofNat 1)))⟩,
    ⟨460030, (some k42), none, .mv (.t k0)⟩,
    ⟨460031, (some k43), none, .mv (.t k9)⟩,
    ⟨460032, (some k44), none, .bin .sub 0 (.t k43) (.c (.i .i64 (.ofNat 1)))⟩,
    ⟨460033, (some k45), none, .ia 1 none (.t k42) (.t k44)⟩,
    ⟨460034, (some k46), none, .load none (.t k45)⟩,
    ⟨460035, (some k47), none, .mv (.t k0)⟩,
    ⟨460036, (some k48), none, .mv (.t k9)⟩,
    ⟨460037, (some k49), none, .ia 1 none (.t k47) (.t k48)⟩,
    ⟨460038, (some k50), none, .load none (.t k49)⟩,
    ⟨460039, (some k51), none, .ia 1 none (.t k37) (.t k38)⟩,
    ⟨460040, none, none, .store 1 (.t k51) (.t k46)⟩,
    ⟨460041, (some k52), none, .ia 1 none (.t k39) (.t k41)⟩,
    ⟨460042, none, none, .store 1 (.t k52) (.t k50)⟩]
def c46_13 : AC := .drw r46_12 [0, 0, 0, 0, 8, 0, 0, 64, 224, 480, 0, 0, 3072, 7168, 16355, 32739, 65535, 131071]
def c46_14 : AC := .blk 3 c46_13
def r46_15 : List GI := [⟨460043, (some k35), none, .mv (.t k9)⟩,
    ⟨460044, (some k36), none, .bin .sub 0 (.t k35) (.c (.i .i64 (.ofNat 1)))⟩,
    ⟨460045, (some k9), none, .mv (.t k36)⟩]
def c46_16 : AC := .reg r46_15
def c46_17 : AC := .seq c46_14 c46_16
def c46_18 : AC := .seq c46_11 c46_17
def c46_19 : AC := .loop c46_18
def c46_20 : AC := .blk 2 c46_19
def c46_21 : AC := .seq c46_7 c46_20
def c46_22 : AC := .blk 1 c46_21
def r46_23 : List GI := [⟨460046, (some k15), none, .mv (.t k8)⟩,
    ⟨460047, (some k16), none, .bin .add 0 (.t k15) (.c (.i .i64 (.ofNat 1)))⟩,
    ⟨460048, (some k8), none, .mv (.t k16)⟩]
def c46_24 : AC := .reg r46_23
def c46_25 : AC := .seq c46_22 c46_24
def c46_26 : AC := .seq c46_5 c46_25
def c46_27 : AC := .loop c46_26
def c46_28 : AC := .blk 0 c46_27
def c46_29 : AC := .seq c46_1 c46_28
def a46 : AFn := ⟨53, [],
  c46_29⟩
theorem ok46 : chkF prog 46 a46 = true := by kernel_rfl
def r47_0 : List GI := [⟨470000, (some k13), none, .mv (.t k1)⟩,
    ⟨470001, (some k8), none, .mv (.t k13)⟩]
def c47_1 : AC := .reg r47_0
def r47_2 : List GI := [⟨470002, (some k9), none, .mv (.c (.i .i64 (.ofNat 0)))⟩]
def c47_3 : AC := .reg r47_2
def r47_4 : List GI := [⟨470003, (some k14), none, .mv (.t k2)⟩,
    ⟨470004, (some k15), none, .mv (.t k1)⟩,
    ⟨470005, (some k16), none, .bin .sub 0 (.t k14) (.t k15)⟩,
    ⟨470006, (some k10), none, .mv (.t k16)⟩]
def c47_5 : AC := .reg r47_4
def r47_6 : List GI := [⟨470007, (some k17), none, .mv (.t k10)⟩,
    ⟨470008, (some k18), none, .bin .sub 0 (.t k17) (.c (.i .i64 (.ofNat 1)))⟩,
    ⟨470009, (some k19), none, .bin .quo 0 (.t k18) (.c (.i .i64 (.ofNat 2)))⟩,
    ⟨470010, (some k11), none, .mv (.t k19)⟩]
def c47_7 : AC := .reg r47_6
def r47_8 : List GI := [⟨470011, (some k20), none, .mv (.t k11)⟩,
    ⟨470012, (some k21), none, .bin .geq 0 (.t k20) (.c (.i .i64 (.ofNat 0)))⟩]
def c47_9 : AC := .reg r47_8
def c47_10 : AC := .cond (.t k21) .skip (.exit 0)
def c47_11 : AC := .seq c47_9 c47_10
def r47_12 : List GI := [⟨470013, (some k24), none, .mv (.t k0)⟩,
    ⟨470014, (some k25), none, .mv (.t k11)⟩,
    ⟨470015, (some k26), none, .mv (.t k10)⟩,
    ⟨470016, (some k27), none, .mv (.t k8)⟩,
    ⟨470017, (some k28), none, .mv (.t k3)⟩,
    ⟨470018, (some k29), none, .call (.fn 66) [(.t k24), (.t k25), (.t k26), (.t k27), (.t k28)]⟩]
def c47_13 : AC := .reg r47_12
def c47_14 : AC := .blk 1 c47_13
def r47_15 : List GI := [⟨470019, (some k22), none, .mv (.t k11)⟩,
    ⟨470020, (some k23), none, .bin .sub 0 (.t k22) (.c (.i .i64 (.ofNat 1)))⟩,
    ⟨470021, (some k11), none, .mv (.t k23)⟩]
def c47_16 : AC := .reg r47_15
def c47_17 : AC := .seq c47_14 c47_16
def c47_18 : AC := .seq c47_11 c47_17
def c47_19 : AC := .loop c47_18
def c47_20 : AC := .blk 0 c47_19
def c47_21 : AC := .seq c47_7 c47_20
def r47_22 : List GI := [⟨470022, (some k30), none, .mv (.t k10)⟩,
    ⟨470023, (some k31), none, .bin .sub 0 (.t k30) (.c (.i .i64 (.ofNat 1)))⟩,
    ⟨470024, (some k12), none, .mv (.t k31)⟩]
def c47_23 : AC := .reg r47_22
def r47_24 : List GI := [⟨470025, (some k32), none, .mv (.t k12)⟩,
    ⟨470026, (some k33), none, .bin .geq 0 (.t k32) (.c (.i .i64 (.ofNat 0)))⟩]
def c47_25 : AC := .reg r47_24
def c47_26 : AC := .cond (.t k33) .skip (.exit 2)
def c47_27 : AC := .seq c47_25 c47_26
def r47_28 : List GI := [⟨470027, (some k36), none, .mv (.t k0)⟩,
    ⟨470028, (some k37), none, .mv (.t k8)⟩,
    ⟨470029, (some k38), none, .mv (.t k0)⟩,
    ⟨470030, (some k39), none, .mv (.t k8)⟩,
    ⟨470031, (some k40), none, .mv (.t k12)⟩,
    ⟨470032, (some k41), none, .bin .add 0 (.t k39) (.t k40)⟩,
    ⟨470033, (some k42), none, .mv (.t k0)⟩,
    ⟨470034, (some k43), none, .mv (.t k8)⟩,
    ⟨470035, (some k44), none, .mv (.t k12)⟩,
    ⟨470036, (some k45), none, .bin .add 0 (.t k43) (.t k44)⟩,
    ⟨470037, (some k46), none, .ia 1 none (.t k42) (.t k45)⟩,
    ⟨470038, (some k47), none, .load none (.t k46)⟩,
    ⟨470039, (some k48), none, .mv (.t k0)⟩,
    ⟨470040, (some k49), none, .mv (.t k8)⟩,
    ⟨470041, (some k50), none, .ia 1 none (.t k48) (.t k49)⟩,
    ⟨470042, (some k51), none, .load none (.t k50)⟩,
    ⟨470043, (some k52), none, .ia 1 none (.t k36) (.t k37)⟩,
    ⟨470044, none, none, .store 1 (.t k52) (.t k47)⟩,
    ⟨470045, (some k53), none, .ia 1 none (.t k38) (.t k41)⟩,
    ⟨470046, none, none, .store 1 (.t k53) (.t k51)⟩]
def c47_29 : AC := .drw r47_28 [0, 0, 0, 0, 0, 24, 0, 0, 0, 384, 960, 1984, 0, 0, 12288, 28672, 65475, 131011, 262143, 524287]
def r47_30 : List GI := [⟨470047, (some k54), none, .mv (.t k0)⟩,
    ⟨470048, (some k55), none, .mv (.t k9)⟩,
    ⟨470049, (some k56), none, .mv (.t k12)⟩,
    ⟨470050, (some k57), none, .mv (.t k8)⟩,
    ⟨470051, (some k58), none, .mv (.t k3)⟩,
    ⟨470052, (some k59), none, .call (.fn 66) [(.t k54), (.t k55), (.t k56), (.t k57), (.t k58)]⟩]
def c47_31 : AC := .reg r47_30
def c47_32 : AC := .seq c47_29 c47_31
def c47_33 : AC := .blk 3 c47_32
def r47_34 : List GI := [⟨470053, (some k34), none, .mv (.t k12)⟩,
    ⟨470054, (some k35), none, .bin .sub 0 (.t k34) (.c (.i .i64 (.ofNat 1)))⟩,
    ⟨470055, (some k12), none, .mv (.t k35)⟩]
def c47_35 : AC := .reg r47_34
def c47_36 : AC := .seq c47_33 c47_35
def c47_37 : AC := .seq c47_27 c47_36
def c47_38 : AC := .loop c47_37
def c47_39 : AC := .blk 2 c47_38
def c47_40 : AC := .seq c47_23 c47_39
def c47_41 : AC := .seq c47_21 c47_40
def c47_42 : AC := .seq c47_5 c47_41
def c47_43 : AC := .seq c47_3 c47_42
def c47_44 : AC := .seq c47_1 c47_43
def a47 : AFn := ⟨60, [],
  c47_44⟩
theorem ok47 : chkF prog 47 a47 = true := by kernel_rfl
def r48_0 : List GI := [⟨480000, (some k13), none, .mv (.t k2)⟩,
    ⟨480001, (some k14), none, .mv (.t k1)⟩,
    ⟨480002, (some k15), none, .bin .sub 0 (.t k13) (.t k14)⟩,
    ⟨480003, (some k8), none, .mv (.t k15)⟩]
def c48_1 : AC := .reg r48_0
def r48_2 : List GI := [⟨480004, (some k16), none, .mv (.t k8)⟩,
    ⟨480005, (some k17), none, .bin .geq 0 (.t k16) (.c (.i .i64 (.ofNat 8)))⟩]
def c48_3 : AC := .reg r48_2
def r48_4 : List GI := [⟨480006, (some k18), none, .mv (.t k8)⟩,
    ⟨480007, (some k19), none, .conv .u64 (.t k18)⟩,
    ⟨480008, (some k9), none, .new 100 [(.i .u64 (.ofNat 0))]⟩,
    ⟨480009, none, none, .store 1 (.t k9) (.t k19)⟩]
def c48_5 : AC := .reg r48_4
def r48_6 : List GI := [⟨480010, (some k20), none, .mv (.t k8)⟩,
    ⟨480011, (some k21), none, .call (.fn 67) [(.t k20)]⟩,
    ⟨480012, (some k10), none, .mv (.t k21)⟩]
def c48_7 : AC := .reg r48_6
def r48_8 : List GI := [⟨480013, (some k22), none, .mv (.t k1)⟩,
    ⟨480014, (some k23), none, .mv (.t k8)⟩,
    ⟨480015, (some k24), none, .bin .quo 0 (.t k23) (.c (.i .i64 (.ofNat 4)))⟩,
    ⟨480016, (some k25), none, .bin .mul 0 (.t k24) (.c (.i .i64 (.ofNat 2)))⟩,
    ⟨480017, (some k26), none, .bin .add 0 (.t k22) (.t k25)⟩,
    ⟨480018, (some k27), none, .bin .sub 0 (.t k26) (.c (.i .i64 (.ofNat 1)))⟩,
    ⟨480019, (some k11), none, .mv (.t k27)⟩]
def c48_9 : AC := .reg r48_8
def r48_10 : List GI := [⟨480020, (some k28), none, .mv (.t k11)⟩,
    ⟨480021, (some k29), none, .mv (.t k1)⟩,
    ⟨480022, (some k30), none, .mv (.t k8)⟩,
    ⟨480023, (some k31), none, .bin .quo 0 (.t k30) (.c (.i .i64 (.ofNat 4)))⟩,
    ⟨480024, (some k32), none, .bin .mul 0 (.t k31) (.c (.i .i64 (.ofNat 2)))⟩,
    ⟨480025, (some k33), none, .bin .add 0 (.t k29) (.t k32)⟩,
    ⟨480026, (some k34), none, .bin .add 0 (.t k33) (.c (.i .i64 (.ofNat 1)))⟩,
    ⟨480027, (some k35), none, .bin .leq 0 (.t k28) (.t k34)⟩]
def c48_11 : AC := .reg r48_10
def c48_12 : AC := .cond (.t k35) .skip (.exit 0)
def c48_13 : AC := .seq c48_11 c48_12
def r48_14 : List GI := [⟨480028, (some k38), none, .call (.fn 68) [(.t k9)]⟩,
    ⟨480029, (some k39), none, .mv (.t k10)⟩,
    ⟨480030, (some k40), none, .bin .sub 0 (.t k39) (.c (.i .u64 (.ofNat 1)))⟩,
    ⟨480031, (some k41), none, .bin .and 0 (.t k38) (.t k40)⟩,
    ⟨480032, (some k42), none, .conv .i64 (.t k41)⟩,
    ⟨480033, (some k12), none, .mv (.t k42)⟩]
def c48_15 : AC := .reg r48_14
def r48_16 : List GI := [⟨480034, (some k43), none, .mv (.t k12)⟩,
    ⟨480035, (some k44), none, .mv (.t k8)⟩,
    ⟨480036, (some k45), none, .bin .geq 0 (.t k43) (.t k44)⟩]
def c48_17 : AC := .reg r48_16
def r48_18 : List GI := [⟨480037, (some k46), none, .mv (.t k12)⟩,
    ⟨480038, (some k47), none, .mv (.t k8)⟩,
    ⟨480039, (some k48), none, .bin .sub 0 (.t k46) (.t k47)⟩,
    ⟨480040, (some k12), none, .mv (.t k48)⟩]
def c48_19 : AC := .reg r48_18
def c48_20 : AC := .cond (.t k45) c48_19 .skip
def c48_21 : AC := .seq c48_17 c48_20
def r48_22 : List GI := [⟨480041, (some k49), none, .mv (.t k0)⟩,
    ⟨480042, (some k50), none, .mv (.t k11)⟩,
    ⟨480043, (some k51), none, .mv (.t k0)⟩,
    ⟨480044, (some k52), none, .mv (.t k1)⟩,
    ⟨480045, (some k53), none, .mv (.t k12)⟩,
    ⟨480046, (some k54), none, .bin .add 0 (.t k52) (.t k53)⟩,
    ⟨480047, (some k55), none, .mv (.t k0)⟩,
    ⟨480048, (some k56), none, .mv (.t k1)⟩,
    ⟨480049, (some k57), none, .mv (.t k12)⟩,
    ⟨480050, (some k58), none, .bin .add 0 (.t k56) (.t k57)⟩,
    ⟨480051, (some k59), none, .ia 1 none (.t k55) (.t k58)⟩,
    ⟨480052, (some k60), none, .load none (.t k59)⟩,
    ⟨480053, (some k61), none, .mv (.t k0)⟩,
    ⟨480054, (some k62), none, .mv (.t k11)⟩,
    ⟨480055, (some k63), none, .ia 1 none (.t k61) (.t k62)⟩,
    ⟨480056, (some k64), none, .load none (.t k63)⟩,
    ⟨480057, (some k65), none, .ia 1 none (.t k49) (.t k50)⟩,
    ⟨480058, none, none, .store 1 (.t k65) (.t k60)⟩,
    ⟨480059, (some k66), none, .ia 1 none (.t k51) (.t k54)⟩,
    ⟨480060, none, none, .store 1 (.t k66) (.t k64)⟩]
def c48_23 : AC := .drw r48_22 [0, 0, 0, 0, 0, 24, 0, 0, 0, 384, 960, 1984, 0, 0, 12288, 28672, 65475, 131011, 262143, 524287]
def c48_24 : AC := .seq c48_21 c48_23
def c48_25 : AC := .seq c48_15 c48_24
def c48_26 : AC := .blk 1 c48_25
def r48_27 : List GI := [⟨480061, (some k36), none, .mv (.t k11)⟩,
    ⟨480062, (some k37), none, .bin .add 0 (.t k36) (.c (.i .i64 (.ofNat 1)))⟩,
    ⟨480063, (some k11), none, .mv (.t k37)⟩]
def c48_28 : AC := .reg r48_27
def c48_29 : AC := .seq c48_26 c48_28
def c48_30 : AC := .seq c48_13 c48_29
def c48_31 : AC := .loop c48_30
def c48_32 : AC := .blk 0 c48_31
def c48_33 : AC := .seq c48_9 c48_32
def c48_34 : AC := .seq c48_7 c48_33
def c48_35 : AC := .seq c48_5 c48_34
def c48_36 : AC := .cond (.t k17) c48_35 .skip
def c48_37 : AC := .seq c48_3 c48_36
def c48_38 : AC := .seq c48_1 c48_37
def a48 : AFn := ⟨67, [],
  c48_38⟩
theorem ok48 : chkF prog 48 a48 = true := by kernel_rfl
def r49_0 : List GI := [⟨490000, (some k8), none, .mv (.c (.i .i64 (.ofNat 0)))⟩,
    ⟨490001, (some k9), none, .mv (.c (.i .i64 (.ofNat 0)))⟩]
def c49_1 : AC := .reg r49_0
def r49_2 : List GI := [⟨490002, (some k15), none, .mv (.t k2)⟩,
    ⟨490003, (some k16), none, .mv (.t k1)⟩,
    ⟨490004, (some k17), none, .bin .sub 0 (.t k15) (.t k16)⟩,
    ⟨490005, (some k10), none, .mv (.t k17)⟩]
def c49_3 : AC := .reg r49_2
def r49_4 : List GI := [⟨490006, (some k11), none, .new 3 [(.i .i64 (.ofNat 0))]⟩]
def c49_5 : AC := .reg r49_4
def r49_6 : List GI := [⟨490007, (some k18), none, .mv (.t k1)⟩,
    ⟨490008, (some k19), none, .mv (.t k10)⟩,
    ⟨490009, (some k20), none, .bin .quo 0 (.t k19) (.c (.i .i64 (.ofNat 4)))⟩,
    ⟨490010, (some k21), none, .bin .mul 0 (.t k20) (.c (.i .i64 (.ofNat 1)))⟩,
    ⟨490011, (some k22), none, .bin .add 0 (.t k18) (.t k21)⟩,
    ⟨490012, (some k12), none, .mv (.t k22)⟩]
def c49_7 : AC := .reg r49_6
def r49_8 : List GI := [⟨490013, (some k23), none, .mv (.t k1)⟩,
    ⟨490014, (some k24), none, .mv (.t k10)⟩,
    ⟨490015, (some k25), none, .bin .quo 0 (.t k24) (.c (.i .i64 (.ofNat 4)))⟩,
    ⟨490016, (some k26), none, .bin .mul 0 (.t k25) (.c (.i .i64 (.ofNat 2)))⟩,
    ⟨490017, (some k27), none, .bin .add 0 (.t k23) (.t k26)⟩,
    ⟨490018, (some k13), none, .mv (.t k27)⟩]
def c49_9 : AC := .reg r49_8
def r49_10 : List GI := [⟨490019, (some k28), none, .mv (.t k1)⟩,
    ⟨490020, (some k29), none, .mv (.t k10)⟩,
    ⟨490021, (some k30), none, .bin .quo 0 (.t k29) (.c (.i .i64 (.ofNat 4)))⟩,
    ⟨490022, (some k31), none, .bin .mul 0 (.t k30) (.c (.i .i64 (.ofNat 3)))⟩,
    ⟨490023, (some k32), none, .bin .add 0 (.t k28) (.t k31)⟩,
    ⟨490024, (some k14), none, .mv (.t k32)⟩]
def c49_11 : AC := .reg r49_10
def r49_12 : List GI := [⟨490025, (some k33), none, .mv (.t k10)⟩,
    ⟨490026, (some k34), none, .bin .geq 0 (.t k33) (.c (.i .i64 (.ofNat 8)))⟩]
def c49_13 : AC := .reg r49_12
def r49_14 : List GI := [⟨490027, (some k35), none, .mv (.t k10)⟩,
    ⟨490028, (some k36), none, .bin .geq 0 (.t k35) (.c (.i .i64 (.ofNat 50)))⟩]
def c49_15 : AC := .reg r49_14
def r49_16 : List GI := [⟨490029, (some k37), none, .mv (.t k0)⟩,
    ⟨490030, (some k38), none, .mv (.t k12)⟩,
    ⟨490031, (some k39), none, .mv (.t k3)⟩,
    ⟨490032, (some k40), none, .call (.fn 69) [(.t k37), (.t k38), (.t k11), (.t k39)]⟩,
    ⟨490033, (some k12), none, .mv (.t k40)⟩]
def c49_17 : AC := .reg r49_16
def r49_18 : List GI := [⟨490034, (some k41), none, .mv (.t k0)⟩,
    ⟨490035, (some k42), none, .mv (.t k13)⟩,
    ⟨490036, (some k43), none, .mv (.t k3)⟩,
    ⟨490037, (some k44), none, .call (.fn 69) [(.t k41), (.t k42), (.t k11), (.t k43)]⟩,
    ⟨490038, (some k13), none, .mv (.t k44)⟩]
def c49_19 : AC := .reg r49_18
def r49_20 : List GI := [⟨490039, (some k45), none, .mv (.t k0)⟩,
    ⟨490040, (some k46), none, .mv (.t k14)⟩,
    ⟨490041, (some k47), none, .mv (.t k3)⟩,
    ⟨490042, (some k48), none, .call (.fn 69) [(.t k45), (.t k46), (.t k11), (.t k47)]⟩,
    ⟨490043, (some k14), none, .mv (.t k48)⟩]
def c49_21 : AC := .reg r49_20
def c49_22 : AC := .seq c49_19 c49_21
def c49_23 : AC := .seq c49_17 c49_22
def c49_24 : AC := .cond (.t k36) c49_23 .skip
def c49_25 : AC := .seq c49_15 c49_24
def r49_26 : List GI := [⟨490044, (some k49), none, .mv (.t k0)⟩,
    ⟨490045, (some k50), none, .mv (.t k12)⟩,
    ⟨490046, (some k51), none, .mv (.t k13)⟩,
    ⟨490047, (some k52), none, .mv (.t k14)⟩,
    ⟨490048, (some k53), none, .mv (.t k3)⟩,
    ⟨490049, (some k54), none, .call (.fn 70) [(.t k49), (.t k50), (.t k51), (.t k52), (.t k11), (.t k53)]⟩,
    ⟨490050, (some k13), none, .mv (.t k54)⟩]
def c49_27 : AC := .reg r49_26
def c49_28 : AC := .seq c49_25 c49_27
def c49_29 : AC := .cond (.t k34) c49_28 .skip
def c49_30 : AC := .seq c49_13 c49_29
def r49_31 : List GI := [⟨490051, (some k55), none, .load none (.t k11)⟩]
def c49_32 : AC := .reg r49_31
def r49_33 : List GI := [⟨490052, (some k58), none, .bin .eql 0 (.t k55) (.c (.i .i64 (.ofNat 0)))⟩,
    ⟨490053, (some k57), none, .mv (.t k58)⟩]
def c49_34 : AC := .reg r49_33
def r49_35 : List GI := [⟨490054, (some k59), none, .mv (.t k13)⟩,
    ⟨490055, (some k8), none, .mv (.t k59)⟩,
    ⟨490056, (some k9), none, .mv (.c (.i .i64 (.ofNat 1)))⟩]
def c49_36 : AC := .reg r49_35
def c49_37 : AC := .seq c49_36 .ret
def r49_38 : List GI := [⟨490057, (some k61), none, .bin .eql 0 (.t k55) (.c (.i .i64 (.ofNat 12)))⟩,
    ⟨490058, (some k60), none, .mv (.t k61)⟩]
def c49_39 : AC := .reg r49_38
def r49_40 : List GI := [⟨490059, (some k62), none, .mv (.t k13)⟩,
    ⟨490060, (some k8), none, .mv (.t k62)⟩,
    ⟨490061, (some k9), none, .mv (.c (.i .i64 (.ofNat 2)))⟩]
def c49_41 : AC := .reg r49_40
def c49_42 : AC := .seq c49_41 .ret
def r49_43 : List GI := [⟨490062, (some k56), none, .mv (.t k13)⟩,
    ⟨490063, (some k8), none, .mv (.t k56)⟩,
    ⟨490064, (some k9), none, .mv (.c (.i .i64 (.ofNat 0)))⟩]
def c49_44 : AC := .reg r49_43
def c49_45 : AC := .seq c49_44 .ret
def c49_46 : AC := .cond (.t k60) c49_42 c49_45
def c49_47 : AC := .seq c49_39 c49_46
def c49_48 : AC := .cond (.t k57) c49_37 c49_47
def c49_49 : AC := .seq c49_34 c49_48
def c49_50 : AC := .blk 0 c49_49
def c49_51 : AC := .seq c49_32 c49_50
def c49_52 : AC := .seq c49_30 c49_51
def c49_53 : AC := .seq c49_11 c49_52
def c49_54 : AC := .seq c49_9 c49_53
def c49_55 : AC := .seq c49_7 c49_54
def c49_56 : AC := .seq c49_5 c49_55
def c49_57 : AC := .seq c49_3 c49_56
def c49_58 : AC := .seq c49_1 c49_57
def a49 : AFn := ⟨63, [.t k8, .t k9],
  c49_58⟩
theorem ok49 : chkF prog 49 a49 = true := by kernel_rfl
def r50_0 : List GI := [⟨500000, (some k10), none, .mv (.t k1)⟩,
    ⟨500001, (some k8), none, .mv (.t k10)⟩]
def c50_1 : AC := .reg r50_0
def r50_2 : List GI := [⟨500002, (some k11), none, .mv (.t k2)⟩,
    ⟨500003, (some k12), none, .bin .sub 0 (.t k11) (.c (.i .i64 (.ofNat 1)))⟩,
    ⟨500004, (some k9), none, .mv (.t k12)⟩]
def c50_3 : AC := .reg r50_2
def r50_4 : List GI := [⟨500005, (some k13), none, .mv (.t k8)⟩,
    ⟨500006, (some k14), none, .mv (.t k9)⟩,
    ⟨500007, (some k15), none, .bin .lss 0 (.t k13) (.t k14)⟩]
def c50_5 : AC := .reg r50_4
def c50_6 : AC := .cond (.t k15) .skip (.exit 0)
def c50_7 : AC := .seq c50_5 c50_6
def r50_8 : List GI := [⟨500008, (some k16), none, .mv (.t k0)⟩,
    ⟨500009, (some k17), none, .mv (.t k8)⟩,
    ⟨500010, (some k18), none, .mv (.t k0)⟩,
    ⟨500011, (some k19), none, .mv (.t k9)⟩,
    ⟨500012, (some k20), none, .mv (.t k0)⟩,
    ⟨500013, (some k21), none, .mv (.t k9)⟩,
    ⟨500014, (some k22), none, .ia 1 none (.t k20) (.t k21)⟩,
    ⟨500015, (some k23), none, .load none (.t k22)⟩,
    ⟨500016, (some k24), none, .mv (.t k0)⟩,
    ⟨500017, (some k25), none, .mv (.t k8)⟩,
    ⟨500018, (some k26), none, .ia 1 none (.t k24) (.t k25)⟩,
    ⟨500019, (some k27), none, .load none (.t k26)⟩,
    ⟨500020, (some k28), none, .ia 1 none (.t k16) (.t k17)⟩,
    ⟨500021, none, none, .store 1 (.t k28) (.t k23)⟩,
    ⟨500022, (some k29), none, .ia 1 none (.t k18) (.t k19)⟩,
    ⟨500023, none, none, .store 1 (.t k29) (.t k27)⟩]
def c50_9 : AC := .drw r50_8 [0, 0, 0, 0, 0, 0, 48, 112, 0, 0, 768, 1792, 4083, 8179, 16383, 32767]
def r50_10 : List GI := [⟨500024, (some k30), none, .mv (.t k8)⟩,
    ⟨500025, (some k31), none, .bin .add 0 (.t k30) (.c (.i .i64 (.ofNat 1)))⟩,
    ⟨500026, (some k8), none, .mv (.t k31)⟩]
def c50_11 : AC := .reg r50_10
def r50_12 : List GI := [⟨500027, (some k32), none, .mv (.t k9)⟩,
    ⟨500028, (some k33), none, .bin .sub 0 (.t k32) (.c (.i .i64 (.ofNat 1)))⟩,
    ⟨500029, (some k9), none, .mv (.t k33)⟩]
def c50_13 : AC := .reg r50_12
def c50_14 : AC := .seq c50_11 c50_13
def c50_15 : AC := .seq c50_9 c50_14
def c50_16 : AC := .blk 1 c50_15
def c50_17 : AC := .seq c50_7 c50_16
def c50_18 : AC := .loop c50_17
def c50_19 : AC := .blk 0 c50_18
def c50_20 : AC := .seq c50_3 c50_19
def c50_21 : AC := .seq c50_1 c50_20
def a50 : AFn := ⟨34, [],
  c50_21⟩
theorem ok50 : chkF prog 50 a50 = true := by kernel_rfl
def r51_0 : List GI := [⟨510000, (some k8), none, .mv (.c (.b false))⟩]
def c51_1 : AC := .reg r51_0
def r51_2 : List GI := [⟨510001, (some k13), none, .mv (.t k1)⟩,
    ⟨510002, (some k14), none, .bin .add 0 (.t k13) (.c (.i .i64 (.ofNat 1)))⟩,
    ⟨510003, (some k9), none, .mv (.t k14)⟩]
def c51_3 : AC := .reg r51_2
def r51_4 : List GI := [⟨510004, (some k10), none, .mv (.c (.i .i64 (.ofNat 0)))⟩]
def c51_5 : AC := .reg r51_4
def r51_6 : List GI := [⟨510005, (some k15), none, .mv (.t k10)⟩,
    ⟨510006, (some k16), none, .bin .lss 0 (.t k15) (.c (.i .i64 (.ofNat 5)))⟩]
def c51_7 : AC := .reg r51_6
def c51_8 : AC := .cond (.t k16) .skip (.exit 0)
def c51_9 : AC := .seq c51_7 c51_8
def r51_10 : List GI := [⟨510007, (some k19), none, .mv (.t k9)⟩,
    ⟨510008, (some k20), none, .mv (.t k2)⟩,
    ⟨510009, (some k21), none, .bin .lss 0 (.t k19) (.t k20)⟩,
    ⟨510010, (some k22), none, .mv (.t k21)⟩,
    ⟨510011, (some k23), (some (k22, true)), .mv (.t k3)⟩,
    ⟨510012, (some k24), (some (k22, true)), .mv (.t k0)⟩,
    ⟨510013, (some k25), (some (k22, true)), .mv (.t k9)⟩,
    ⟨510014, (some k26), (some (k22, true)), .ia 1 none (.t k24) (.t k25)⟩,
    ⟨510015, (some k27), (some (k22, true)), .load none (.t k26)⟩,
    ⟨510016, (some k28), (some (k22, true)), .mv (.t k0)⟩,
    ⟨510017, (some k29), (some (k22, true)), .mv (.t k9)⟩,
    ⟨510018, (some k30), (some (k22, true)), .bin .sub 0 (.t k29) (.c (.i .i64 (.ofNat 1)))⟩,
    ⟨510019, (some k31), (some (k22, true)), .ia 1 none (.t k28) (.t k30)⟩,
    ⟨510020, (some k32), (some (k22, true)), .load none (.t k31)⟩,
    ⟨510021, (some k33), (some (k22, true)), .call (.t k23) [(.t k27), (.t k32)]⟩,
    ⟨510022, (some k34), (some (k22, true)), .bin .lss 0 (.t k33) (.c (.i .i64 (.ofNat 0)))⟩,
    ⟨510023, (some k35), (some (k22, true)), .un .not (.t k34)⟩,
    ⟨510024, (some k36), none, .pick (.t k22) (.t k35) (.c (.b false))⟩]
def c51_11 : AC := .drw r51_10 [0, 0, 3, 7, 15, 15, 15, 111, 239, 15, 15, 1039, 3599, 7695, 16383, 32767, 65535, 131071]
def c51_12 : AC := .cond (.t k36) .skip (.exit 2)
def c51_13 : AC := .seq c51_11 c51_12
def r51_14 : List GI := [⟨510025, (some k37), none, .mv (.t k9)⟩,
    ⟨510026, (some k38), none, .bin .add 0 (.t k37) (.c (.i .i64 (.ofNat 1)))⟩,
    ⟨510027, (some k9), none, .mv (.t k38)⟩]
def c51_15 : AC := .reg r51_14
def c51_16 : AC := .blk 3 c51_15
def c51_17 : AC := .seq c51_13 c51_16
def c51_18 : AC := .loop c51_17
def c51_19 : AC := .blk 2 c51_18
def r51_20 : List GI := [⟨510028, (some k39), none, .mv (.t k9)⟩,
    ⟨510029, (some k40), none, .mv (.t k2)⟩,
    ⟨510030, (some k41), none, .bin .eql 0 (.t k39) (.t k40)⟩]
def c51_21 : AC := .reg r51_20
def r51_22 : List GI := [⟨510031, (some k8), none, .mv (.c (.b true))⟩]
def c51_23 : AC := .reg r51_22
def c51_24 : AC := .seq c51_23 .ret
def c51_25 : AC := .cond (.t k41) c51_24 .skip
def c51_26 : AC := .seq c51_21 c51_25
def r51_27 : List GI := [⟨510032, (some k42), none, .mv (.t k2)⟩,
    ⟨510033, (some k43), none, .mv (.t k1)⟩,
    ⟨510034, (some k44), none, .bin .sub 0 (.t k42) (.t k43)⟩,
    ⟨510035, (some k45), none, .bin .lss 0 (.t k44) (.c (.i .i64 (.ofNat 50)))⟩]
def c51_28 : AC := .reg r51_27
def r51_29 : List GI := [⟨510036, (some k8), none, .mv (.c (.b false))⟩]
def c51_30 : AC := .reg r51_29
def c51_31 : AC := .seq c51_30 .ret
def c51_32 : AC := .cond (.t k45) c51_31 .skip
def c51_33 : AC := .seq c51_28 c51_32
def r51_34 : List GI := [⟨510037, (some k46), none, .mv (.t k0)⟩,
    ⟨510038, (some k47), none, .mv (.t k9)⟩,
    ⟨510039, (some k48), none, .mv (.t k0)⟩,
    ⟨510040, (some k49), none, .mv (.t k9)⟩,
    ⟨510041, (some k50), none, .bin .sub 0 (.t k49) (.c (.i .i64 (.ofNat 1)))⟩,
    ⟨510042, (some k51), none, .mv (.t k0)⟩,
    ⟨510043, (some k52), none, .mv (.t k9)⟩,
    ⟨510044, (some k53), none, .bin .sub 0 (.t k52) (.c (.i .i64 (.ofNat 1)))⟩,
    ⟨510045, (some k54), none, .ia 1 none (.t k51) (.t k53)⟩,
    ⟨510046, (some k55), none, .load none (.t k54)⟩,
    ⟨510047, (some k56), none, .mv (.t k0)⟩,
    ⟨510048, (some k57), none, .mv (.t k9)⟩,
    ⟨510049, (some k58), none, .ia 1 none (.t k56) (.t k57)⟩,
    ⟨510050, (some k59), none, .load none (.t k58)⟩,
    ⟨510051, (some k60), none, .ia 1 none (.t k46) (.t k47)⟩,
    ⟨510052, none, none, .store 1 (.t k60) (.t k55)⟩,
    ⟨510053, (some k61), none, .ia 1 none (.t k48) (.t k50)⟩,
    ⟨510054, none, none, .store 1 (.t k61) (.t k59)⟩]
def c51_35 : AC := .drw r51_34 [0, 0, 0, 0, 8, 0, 0, 64, 224, 480, 0, 0, 3072, 7168, 16355, 32739, 65535, 131071]
def r51_36 : List GI := [⟨510055, (some k62), none, .mv (.t k9)⟩,
    ⟨510056, (some k63), none, .mv (.t k1)⟩,
    ⟨510057, (some k64), none, .bin .sub 0 (.t k62) (.t k63)⟩,
    ⟨510058, (some k65), none, .bin .geq 0 (.t k64) (.c (.i .i64 (.ofNat 2)))⟩]
def c51_37 : AC := .reg r51_36
def r51_38 : List GI := [⟨510059, (some k66), none, .mv (.t k9)⟩,
    ⟨510060, (some k67), none, .bin .sub 0 (.t k66) (.c (.i .i64 (.ofNat 1)))⟩,
    ⟨510061, (some k11), none, .mv (.t k67)⟩]
def c51_39 : AC := .reg r51_38
def r51_40 : List GI := [⟨510062, (some k68), none, .mv (.t k11)⟩,
    ⟨510063, (some k69), none, .bin .geq 0 (.t k68) (.c (.i .i64 (.ofNat 1)))⟩]
def c51_41 : AC := .reg r51_40
def c51_42 : AC := .cond (.t k69) .skip (.exit 4)
def c51_43 : AC := .seq c51_41 c51_42
def r51_44 : List GI := [⟨510064, (some k72), none, .mv (.t k3)⟩,
    ⟨510065, (some k73), none, .mv (.t k0)⟩,
    ⟨510066, (some k74), none, .mv (.t k11)⟩,
    ⟨510067, (some k75), none, .ia 1 none (.t k73) (.t k74)⟩,
    ⟨510068, (some k76), none, .load none (.t k75)⟩,
    ⟨510069, (some k77), none, .mv (.t k0)⟩,
    ⟨510070, (some k78), none, .mv (.t k11)⟩,
    ⟨510071, (some k79), none, .bin .sub 0 (.t k78) (.c (.i .i64 (.ofNat 1)))⟩,
    ⟨510072, (some k80), none, .ia 1 none (.t k77) (.t k79)⟩,
    ⟨510073, (some k81), none, .load none (.t k80)⟩,
    ⟨510074, (some k82), none, .call (.t k72) [(.t k76), (.t k81)]⟩,
    ⟨510075, (some k83), none, .bin .lss 0 (.t k82) (.c (.i .i64 (.ofNat 0)))⟩,
    ⟨510076, (some k84), none, .un .not (.t k83)⟩]
def c51_45 : AC := .drw r51_44 [0, 0, 0, 6, 14, 0, 0, 64, 224, 480, 1023, 2047, 4095]
def c51_46 : AC := .cond (.t k84) (.exit 4) .skip
def c51_47 : AC := .seq c51_45 c51_46
def r51_48 : List GI := [⟨510077, (some k85), none, .mv (.t k0)⟩,
    ⟨510078, (some k86), none, .mv (.t k11)⟩,
    ⟨510079, (some k87), none, .mv (.t k0)⟩,
    ⟨510080, (some k88), none, .mv (.t k11)⟩,
    ⟨510081, (some k89), none, .bin .sub 0 (.t k88) (.c (.i .i64 (.ofNat 1)))⟩,
    ⟨510082, (some k90), none, .mv (.t k0)⟩,
    ⟨510083, (some k91), none, .mv (.t k11)⟩,
    ⟨510084, (some k92), none, .bin .sub 0 (.t k91) (.c (.i .i64 (.ofNat 1)))⟩,
    ⟨510085, (some k93), none, .ia 1 none (.t k90) (.t k92)⟩,
    ⟨510086, (some k94), none, .load none (.t k93)⟩,
    ⟨510087, (some k95), none, .mv (.t k0)⟩,
    ⟨510088, (some k96), none, .mv (.t k11)⟩,
    ⟨510089, (some k97), none, .ia 1 none (.t k95) (.t k96)⟩,
    ⟨510090, (some k98), none, .load none (.t k97)⟩,
    ⟨510091, (some k99), none, .ia 1 none (.t k85) (.t k86)⟩,
    ⟨510092, none, none, .store 1 (.t k99) (.t k94)⟩,
    ⟨510093, (some k100), none, .ia 1 none (.t k87) (.t k89)⟩,
    ⟨510094, none, none, .store 1 (.t k100) (.t k98)⟩]
def c51_49 : AC := .drw r51_48 [0, 0, 0, 0, 8, 0, 0, 64, 224, 480, 0, 0, 3072, 7168, 16355, 32739, 65535, 131071]
def c51_50 : AC := .seq c51_47 c51_49
def c51_51 : AC := .blk 5 c51_50
def r51_52 : List GI := [⟨510095, (some k70), none, .mv (.t k11)⟩,
    ⟨510096, (some k71), none, .bin .sub 0 (.t k70) (.c (.i .i64 (.ofNat 1)))⟩,
    ⟨510097, (some k11), none, .mv (.t k71)⟩]
def c51_53 : AC := .reg r51_52
def c51_54 : AC := .seq c51_51 c51_53
def c51_55 : AC := .seq c51_43 c51_54
def c51_56 : AC := .loop c51_55
def c51_57 : AC := .blk 4 c51_56
def c51_58 : AC := .seq c51_39 c51_57
def c51_59 : AC := .cond (.t k65) c51_58 .skip
def c51_60 : AC := .seq c51_37 c51_59
def r51_61 : List GI := [⟨510098, (some k101), none, .mv (.t k2)⟩,
    ⟨510099, (some k102), none, .mv (.t k9)⟩,
    ⟨510100, (some k103), none, .bin .sub 0 (.t k101) (.t k102)⟩,
    ⟨510101, (some k104), none, .bin .geq 0 (.t k103) (.c (.i .i64 (.ofNat 2)))⟩]
def c51_62 : AC := .reg r51_61
def r51_63 : List GI := [⟨510102, (some k105), none, .mv (.t k9)⟩,
    ⟨510103, (some k106), none, .bin .add 0 (.t k105) (.c (.i .i64 (.ofNat 1)))⟩,
    ⟨510104, (some k12), none, .mv (.t k106)⟩]
def c51_64 : AC := .reg r51_63
def r51_65 : List GI := [⟨510105, (some k107), none, .mv (.t k12)⟩,
    ⟨510106, (some k108), none, .mv (.t k2)⟩,
    ⟨510107, (some k109), none, .bin .lss 0 (.t k107) (.t k108)⟩]
def c51_66 : AC := .reg r51_65
def c51_67 : AC := .cond (.t k109) .skip (.exit 6)
def c51_68 : AC := .seq c51_66 c51_67
def r51_69 : List GI := [⟨510108, (some k112), none, .mv (.t k3)⟩,
    ⟨510109, (some k113), none, .mv (.t k0)⟩,
    ⟨510110, (some k114), none, .mv (.t k12)⟩,
    ⟨510111, (some k115), none, .ia 1 none (.t k113) (.t k114)⟩,
    ⟨510112, (some k116), none, .load none (.t k115)⟩,
    ⟨510113, (some k117), none, .mv (.t k0)⟩,
    ⟨510114, (some k118), none, .mv (.t k12)⟩,
    ⟨510115, (some k119), none, .bin .sub 0 (.t k118) (.c (.i .i64 (.ofNat 1)))⟩,
    ⟨510116, (some k120), none, .ia 1 none (.t k117) (.t k119)⟩,
    ⟨510117, (some k121), none, .load none (.t k120)⟩,
    ⟨510118, (some k122), none, .call (.t k112) [(.t k116), (.t k121)]⟩,
    ⟨510119, (some k123), none, .bin .lss 0 (.t k122) (.c (.i .i64 (.ofNat 0)))⟩,
    ⟨510120, (some k124), none, .un .not (.t k123)⟩]
def c51_70 : AC := .drw r51_69 [0, 0, 0, 6, 14, 0, 0, 64, 224, 480, 1023, 2047, 4095]
def c51_71 : AC := .cond (.t k124) (.exit 6) .skip
def c51_72 : AC := .seq c51_70 c51_71
def r51_73 : List GI := [⟨510121, (some k125), none, .mv (.t k0)⟩,
    ⟨510122, (some k126), none, .mv (.t k12)⟩,
    ⟨510123, (some k127), none, .mv (.t k0)⟩,
    ⟨510124, (some k128), none, .mv (.t k12)⟩,
    ⟨510125, (some k129), none, .bin .sub 0 (.t k128) (.c (.i .i64 (.ofNat 1)))⟩,
    ⟨510126, (some k130), none, .mv (.t k0)⟩,
    ⟨510127, (some k131), none, .mv (.t k12)⟩,
    ⟨510128, (some k132), none, .bin .sub 0 (.t k131) (.c (.i .i64 (.ofNat 1)))⟩,
    ⟨510129, (some k133), none, .ia 1 none (.t k130) (.t k132)⟩,
    ⟨510130, (some k134), none, .load none (.t k133)⟩,
    ⟨510131, (some k135), none, .mv (.t k0)⟩,
    ⟨510132, (some k136), none, .mv (.t k12)⟩,
    ⟨510133, (some k137), none, .ia 1 none (.t k135) (.t k136)⟩,
    ⟨510134, (some k138), none, .load none (.t k137)⟩,
    ⟨510135, (some k139), none, .ia 1 none (.t k125) (.t k126)⟩,
    ⟨510136, none, none, .store 1 (.t k139) (.t k134)⟩,
    ⟨510137, (some k140), none, .ia 1 none (.t k127) (.t k129)⟩,
    ⟨510138, none, none, .store 1 (.t k140) (.t k138)⟩]
def c51_74 : AC := .drw r51_73 [0, 0, 0, 0, 8, 0, 0, 64, 224, 480, 0, 0, 3072, 7168, 16355, 32739, 65535, 131071]
def c51_75 : AC := .seq c51_72 c51_74
def c51_76 : AC := .blk 7 c51_75
def r51_77 : List GI := [⟨510139, (some k110), none, .mv (.t k12)⟩,
    ⟨510140, (some k111), none, .bin .add 0 (.t k110) (.c (.i .i64 (.ofNat 1)))⟩,
    ⟨510141, (some k12), none, .mv (.t k111)⟩]
def c51_78 : AC := .reg r51_77
def c51_79 : AC := .seq c51_76 c51_78
def c51_80 : AC := .seq c51_68 c51_79
def c51_81 : AC := .loop c51_80
def c51_82 : AC := .blk 6 c51_81
def c51_83 : AC := .seq c51_64 c51_82
def c51_84 : AC := .cond (.t k104) c51_83 .skip
def c51_85 : AC := .seq c51_62 c51_84
def c51_86 : AC := .seq c51_60 c51_85
def c51_87 : AC := .seq c51_35 c51_86
def c51_88 : AC := .seq c51_33 c51_87
def c51_89 : AC := .seq c51_26 c51_88
def c51_90 : AC := .seq c51_19 c51_89
def c51_91 : AC := .blk 1 c51_90
def r51_92 : List GI := [⟨510142, (some k17), none, .mv (.t k10)⟩,
    ⟨510143, (some k18), none, .bin .add 0 (.t k17) (.c (.i .i64 (.ofNat 1)))⟩,
    ⟨510144, (some k10), none, .mv (.t k18)⟩]
def c51_93 : AC := .reg r51_92
def c51_94 : AC := .seq c51_91 c51_93
def c51_95 : AC := .seq c51_9 c51_94
def c51_96 : AC := .loop c51_95
def c51_97 : AC := .blk 0 c51_96
def c51_98 : AC := .seq c51_5 c51_97
def r51_99 : List GI := [⟨510145, (some k8), none, .mv (.c (.b false))⟩]
def c51_100 : AC := .reg r51_99
def c51_101 : AC := .seq c51_100 .ret
def c51_102 : AC := .seq c51_98 c51_101
def c51_103 : AC := .seq c51_3 c51_102
def c51_104 : AC := .seq c51_1 c51_103
def a51 : AFn := ⟨141, [.t k8],
  c51_104⟩
theorem ok51 : chkF prog 51 a51 = true := by kernel_rfl
def r52_0 : List GI := [⟨520000, (some k10), none, .mv (.c (.i .i64 (.ofNat 0)))⟩]
def c52_1 : AC := .reg r52_0
def r52_2 : List GI := [⟨520001, (some k13), none, .mv (.t k0)⟩,
    ⟨520002, (some k14), none, .mv (.t k1)⟩,
    ⟨520003, (some k15), none, .mv (.t k0)⟩,
    ⟨520004, (some k16), none, .mv (.t k3)⟩,
    ⟨520005, (some k17), none, .mv (.t k0)⟩,
    ⟨520006, (some k18), none, .mv (.t k3)⟩,
    ⟨520007, (some k19), none, .ia 1 none (.t k17) (.t k18)⟩,
    ⟨520008, (some k20), none, .load none (.t k19)⟩,
    ⟨520009, (some k21), none, .mv (.t k0)⟩,
    ⟨520010, (some k22), none, .mv (.t k1)⟩,
    ⟨520011, (some k23), none, .ia 1 none (.t k21) (.t k22)⟩,
    ⟨520012, (some k24), none, .load none (.t k23)⟩,
    ⟨520013, (some k25), none, .ia 1 none (.t k13) (.t k14)⟩,
    ⟨520014, none, none, .store 1 (.t k25) (.t k20)⟩,
    ⟨520015, (some k26), none, .ia 1 none (.t k15) (.t k16)⟩,
    ⟨520016, none, none, .store 1 (.t k26) (.t k24)⟩]
def c52_3 : AC := .drw r52_2 [0, 0, 0, 0, 0, 0, 48, 112, 0, 0, 768, 1792, 4083, 8179, 16383, 32767]
def r52_4 : List GI := [⟨520017, (some k27), none, .mv (.t k1)⟩,
    ⟨520018, (some k28), none, .bin .add 0 (.t k27) (.c (.i .i64 (.ofNat 1)))⟩,
    ⟨520019, (some k29), none, .mv (.t k2)⟩,
    ⟨520020, (some k30), none, .bin .sub 0 (.t k29) (.c (.i .i64 (.ofNat 1)))⟩,
    ⟨520021, (some k11), none, .mv (.t k28)⟩,
    ⟨520022, (some k12), none, .mv (.t k30)⟩]
def c52_5 : AC := .reg r52_4
def r52_6 : List GI := [⟨520023, (some k31), none, .mv (.t k11)⟩,
    ⟨520024, (some k32), none, .mv (.t k12)⟩,
    ⟨520025, (some k33), none, .bin .leq 0 (.t k31) (.t k32)⟩,
    ⟨520026, (some k34), none, .mv (.t k33)⟩,
    ⟨520027, (some k35), (some (k34, true)), .mv (.t k4)⟩,
    ⟨520028, (some k36), (some (k34, true)), .mv (.t k0)⟩,
    ⟨520029, (some k37), (some (k34, true)), .mv (.t k1)⟩,
    ⟨520030, (some k38), (some (k34, true)), .ia 1 none (.t k36) (.t k37)⟩,
    ⟨520031, (some k39), (some (k34, true)), .load none (.t k38)⟩,
    ⟨520032, (some k40), (some (k34, true)), .mv (.t k0)⟩,
    ⟨520033, (some k41), (some (k34, true)), .mv (.t k11)⟩,
    ⟨520034, (some k42), (some (k34, true)), .ia 1 none (.t k40) (.t k41)⟩,
    ⟨520035, (some k43), (some (k34, true)), .load none (.t k42)⟩,
    ⟨520036, (some k44), (some (k34, true)), .call (.t k35) [(.t k39), (.t k43)]⟩,
    ⟨520037, (some k45), (some (k34, true)), .bin .lss 0 (.t k44) (.c (.i .i64 (.ofNat 0)))⟩,
    ⟨520038, (some k46), (some (k34, true)), .un .not (.t k45)⟩,
    ⟨520039, (some k47), none, .pick (.t k34) (.t k46) (.c (.b false))⟩]
def c52_7 : AC := .drw r52_6 [0, 0, 3, 7, 15, 15, 15, 111, 239, 15, 15, 1551, 3599, 8191, 16383, 32767, 65535]
def c52_8 : AC := .cond (.t k47) .skip (.exit 2)
def c52_9 : AC := .seq c52_7 c52_8
def r52_10 : List GI := [⟨520040, (some k48), none, .mv (.t k11)⟩,
    ⟨520041, (some k49), none, .bin .add 0 (.t k48) (.c (.i .i64 (.ofNat 1)))⟩,
    ⟨520042, (some k11), none, .mv (.t k49)⟩]
def c52_11 : AC := .reg r52_10
def c52_12 : AC := .blk 3 c52_11
def c52_13 : AC := .seq c52_9 c52_12
def c52_14 : AC := .loop c52_13
def c52_15 : AC := .blk 2 c52_14
def r52_16 : List GI := [⟨520043, (some k50), none, .mv (.t k11)⟩,
    ⟨520044, (some k51), none, .mv (.t k12)⟩,
    ⟨520045, (some k52), none, .bin .leq 0 (.t k50) (.t k51)⟩,
    ⟨520046, (some k53), none, .mv (.t k52)⟩,
    ⟨520047, (some k54), (some (k53, true)), .mv (.t k4)⟩,
    ⟨520048, (some k55), (some (k53, true)), .mv (.t k0)⟩,
    ⟨520049, (some k56), (some (k53, true)), .mv (.t k1)⟩,
    ⟨520050, (some k57), (some (k53, true)), .ia 1 none (.t k55) (.t k56)⟩,
    ⟨520051, (some k58), (some (k53, true)), .load none (.t k57)⟩,
    ⟨520052, (some k59), (some (k53, true)), .mv (.t k0)⟩,
    ⟨520053, (some k60), (some (k53, true)), .mv (.t k12)⟩,
    ⟨520054, (some k61), (some (k53, true)), .ia 1 none (.t k59) (.t k60)⟩,
    ⟨520055, (some k62), (some (k53, true)), .load none (.t k61)⟩,
    ⟨520056, (some k63), (some (k53, true)), .call (.t k54) [(.t k58), (.t k62)]⟩,
    ⟨520057, (some k64), (some (k53, true)), .bin .lss 0 (.t k63) (.c (.i .i64 (.ofNat 0)))⟩,
    ⟨520058, (some k65), none, .pick (.t k53) (.t k64) (.c (.b false))⟩]
def c52_17 : AC := .drw r52_16 [0, 0, 3, 7, 15, 15, 15, 111, 239, 15, 15, 1551, 3599, 8191, 16383, 32767]
def c52_18 : AC := .cond (.t k65) .skip (.exit 4)
def c52_19 : AC := .seq c52_17 c52_18
def r52_20 : List GI := [⟨520059, (some k66), none, .mv (.t k12)⟩,
    ⟨520060, (some k67), none, .bin .sub 0 (.t k66) (.c (.i .i64 (.ofNat 1)))⟩,
    ⟨520061, (some k12), none, .mv (.t k67)⟩]
def c52_21 : AC := .reg r52_20
def c52_22 : AC := .blk 5 c52_21
def c52_23 : AC := .seq c52_19 c52_22
def c52_24 : AC := .loop c52_23
def c52_25 : AC := .blk 4 c52_24
def r52_26 : List GI := [⟨520062, (some k68), none, .mv (.t k11)⟩,
    ⟨520063, (some k69), none, .mv (.t k12)⟩,
    ⟨520064, (some k70), none, .bin .gtr 0 (.t k68) (.t k69)⟩]
def c52_27 : AC := .reg r52_26
def c52_28 : AC := .cond (.t k70) (.exit 0) .skip
def c52_29 : AC := .seq c52_27 c52_28
def r52_30 : List GI := [⟨520065, (some k71), none, .mv (.t k0)⟩,
    ⟨520066, (some k72), none, .mv (.t k11)⟩,
    ⟨520067, (some k73), none, .mv (.t k0)⟩,
    ⟨520068, (some k74), none, .mv (.t k12)⟩,
    ⟨520069, (some k75), none, .mv (.t k0)⟩,
    ⟨520070, (some k76), none, .mv (.t k12)⟩,
    ⟨520071, (some k77), none, .ia 1 none (.t k75) (.t k76)⟩,
    ⟨520072, (some k78), none, .load none (.t k77)⟩,
    ⟨520073, (some k79), none, .mv (.t k0)⟩,
    ⟨520074, (some k80), none, .mv (.t k11)⟩,
    ⟨520075, (some k81), none, .ia 1 none (.t k79) (.t k80)⟩,
    ⟨520076, (some k82), none, .load none (.t k81)⟩,
    ⟨520077, (some k83), none, .ia 1 none (.t k71) (.t k72)⟩,
    ⟨520078, none, none, .store 1 (.t k83) (.t k78)⟩,
    ⟨520079, (some k84), none, .ia 1 none (.t k73) (.t k74)⟩,
    ⟨520080, none, none, .store 1 (.t k84) (.t k82)⟩]
def c52_31 : AC := .drw r52_30 [0, 0, 0, 0, 0, 0, 48, 112, 0, 0, 768, 1792, 4083, 8179, 16383, 32767]
def r52_32 : List GI := [⟨520081, (some k85), none, .mv (.t k11)⟩,
    ⟨520082, (some k86), none, .bin .add 0 (.t k85) (.c (.i .i64 (.ofNat 1)))⟩,
    ⟨520083, (some k11), none, .mv (.t k86)⟩]
def c52_33 : AC := .reg r52_32
def r52_34 : List GI := [⟨520084, (some k87), none, .mv (.t k12)⟩,
    ⟨520085, (some k88), none, .bin .sub 0 (.t k87) (.c (.i .i64 (.ofNat 1)))⟩,
    ⟨520086, (some k12), none, .mv (.t k88)⟩]
def c52_35 : AC := .reg r52_34
def c52_36 : AC := .seq c52_33 c52_35
def c52_37 : AC := .seq c52_31 c52_36
def c52_38 : AC := .seq c52_29 c52_37
def c52_39 : AC := .seq c52_25 c52_38
def c52_40 : AC := .seq c52_15 c52_39
def c52_41 : AC := .blk 1 c52_40
def c52_42 : AC := .loop c52_41
def c52_43 : AC := .blk 0 c52_42
def r52_44 : List GI := [⟨520087, (some k89), none, .mv (.t k11)⟩,
    ⟨520088, (some k10), none, .mv (.t k89)⟩]
def c52_45 : AC := .reg r52_44
def c52_46 : AC := .seq c52_45 .ret
def c52_47 : AC := .seq c52_43 c52_46
def c52_48 : AC := .seq c52_5 c52_47
def c52_49 : AC := .seq c52_3 c52_48
def c52_50 : AC := .seq c52_1 c52_49
def a52 : AFn := ⟨90, [.t k10],
  c52_50⟩
theorem ok52 : chkF prog 52 a52 = true := by kernel_rfl
def r53_0 : List GI := [⟨530000, (some k10), none, .mv (.c (.i .i64 (.ofNat 0)))⟩,
    ⟨530001, (some k11), none, .mv (.c (.b false))⟩]
def c53_1 : AC := .reg r53_0
def r53_2 : List GI := [⟨530002, (some k14), none, .mv (.t k0)⟩,
    ⟨530003, (some k15), none, .mv (.t k1)⟩,
    ⟨530004, (some k16), none, .mv (.t k0)⟩,
    ⟨530005, (some k17), none, .mv (.t k3)⟩,
    ⟨530006, (some k18), none, .mv (.t k0)⟩,
    ⟨530007, (some k19), none, .mv (.t k3)⟩,
    ⟨530008, (some k20), none, .ia 1 none (.t k18) (.t k19)⟩,
    ⟨530009, (some k21), none, .load none (.t k20)⟩,
    ⟨530010, (some k22), none, .mv (.t k0)⟩,
    ⟨530011, (some k23), none, .mv (.t k1)⟩,
    ⟨530012, (some k24), none, .ia 1 none (.t k22) (.t k23)⟩,
    ⟨530013, (some k25), none, .load none (.t k24)⟩,
    ⟨530014, (some k26), none, .ia 1 none (.t k14) (.t k15)⟩,
    ⟨530015, none, none, .store 1 (.t k26) (.t k21)⟩,
    ⟨530016, (some k27), none, .ia 1 none (.t k16) (.t k17)⟩,
    ⟨530017, none, none, .store 1 (.t k27) (.t k25)⟩]
def c53_3 : AC := .drw r53_2 [0, 0, 0, 0, 0, 0, 48, 112, 0, 0, 768, 1792, 4083, 8179, 16383, 32767]
def r53_4 : List GI := [⟨530018, (some k28), none, .mv (.t k1)⟩,
    ⟨530019, (some k29), none, .bin .add 0 (.t k28) (.c (.i .i64 (.ofNat 1)))⟩,
    ⟨530020, (some k30), none, .mv (.t k2)⟩,
    ⟨530021, (some k31), none, .bin .sub 0 (.t k30) (.c (.i .i64 (.ofNat 1)))⟩,
    ⟨530022, (some k12), none, .mv (.t k29)⟩,
    ⟨530023, (some k13), none, .mv (.t k31)⟩]
def c53_5 : AC := .reg r53_4
def r53_6 : List GI := [⟨530024, (some k32), none, .mv (.t k12)⟩,
    ⟨530025, (some k33), none, .mv (.t k13)⟩,
    ⟨530026, (some k34), none, .bin .leq 0 (.t k32) (.t k33)⟩,
    ⟨530027, (some k35), none, .mv (.t k34)⟩,
    ⟨530028, (some k36), (some (k35, true)), .mv (.t k4)⟩,
    ⟨530029, (some k37), (some (k35, true)), .mv (.t k0)⟩,
    ⟨530030, (some k38), (some (k35, true)), .mv (.t k12)⟩,
    ⟨530031, (some k39), (some (k35, true)), .ia 1 none (.t k37) (.t k38)⟩,
    ⟨530032, (some k40), (some (k35, true)), .load none (.t k39)⟩,
    ⟨530033, (some k41), (some (k35, true)), .mv (.t k0)⟩,
    ⟨530034, (some k42), (some (k35, true)), .mv (.t k1)⟩,
    ⟨530035, (some k43), (some (k35, true)), .ia 1 none (.t k41) (.t k42)⟩,
    ⟨530036, (some k44), (some (k35, true)), .load none (.t k43)⟩,
    ⟨530037, (some k45), (some (k35, true)), .call (.t k36) [(.t k40), (.t k44)]⟩,
    ⟨530038, (some k46), (some (k35, true)), .bin .lss 0 (.t k45) (.c (.i .i64 (.ofNat 0)))⟩,
    ⟨530039, (some k47), none, .pick (.t k35) (.t k46) (.c (.b false))⟩]
def c53_7 : AC := .drw r53_6 [0, 0, 3, 7, 15, 15, 15, 111, 239, 15, 15, 1551, 3599, 8191, 16383, 32767]
def c53_8 : AC := .cond (.t k47) .skip (.exit 0)
def c53_9 : AC := .seq c53_7 c53_8
def r53_10 : List GI := [⟨530040, (some k48), none, .mv (.t k12)⟩,
    ⟨530041, (some k49), none, .bin .add 0 (.t k48) (.c (.i .i64 (.ofNat 1)))⟩,
    ⟨530042, (some k12), none, .mv (.t k49)⟩]
def c53_11 : AC := .reg r53_10
def c53_12 : AC := .blk 1 c53_11
def c53_13 : AC := .seq c53_9 c53_12
def c53_14 : AC := .loop c53_13
def c53_15 : AC := .blk 0 c53_14
def r53_16 : List GI := [⟨530043, (some k50), none, .mv (.t k12)⟩,
    ⟨530044, (some k51), none, .mv (.t k13)⟩,
    ⟨530045, (some k52), none, .bin .leq 0 (.t k50) (.t k51)⟩,
    ⟨530046, (some k53), none, .mv (.t k52)⟩,
    ⟨530047, (some k54), (some (k53, true)), .mv (.t k4)⟩,
    ⟨530048, (some k55), (some (k53, true)), .mv (.t k0)⟩,
    ⟨530049, (some k56), (some (k53, true)), .mv (.t k13)⟩,
    ⟨530050, (some k57), (some (k53, true)), .ia 1 none (.t k55) (.t k56)⟩,
    ⟨530051, (some k58), (some (k53, true)), .load none (.t k57)⟩,
    ⟨530052, (some k59), (some (k53, true)), .mv (.t k0)⟩,
    ⟨530053, (some k60), (some (k53, true)), .mv (.t k1)⟩,
    ⟨530054, (some k61), (some (k53, true)), .ia 1 none (.t k59) (.t k60)⟩,
    ⟨530055, (some k62), (some (k53, true)), .load none (.t k61)⟩,
    ⟨530056, (some k63), (some (k53, true)), .call (.t k54) [(.t k58), (.t k62)]⟩,
    ⟨530057, (some k64), (some (k53, true)), .bin .lss 0 (.t k63) (.c (.i .i64 (.ofNat 0)))⟩,
    ⟨530058, (some k65), (some (k53, true)), .un .not (.t k64)⟩,
    ⟨530059, (some k66), none, .pick (.t k53) (.t k65) (.c (.b false))⟩]
def c53_17 : AC := .drw r53_16 [0, 0, 3, 7, 15, 15, 15, 111, 239, 15, 15, 1551, 3599, 8191, 16383, 32767, 65535]
def c53_18 : AC := .cond (.t k66) .skip (.exit 2)
def c53_19 : AC := .seq c53_17 c53_18
def r53_20 : List GI := [⟨530060, (some k67), none, .mv (.t k13)⟩,
    ⟨530061, (some k68), none, .bin .sub 0 (.t k67) (.c (.i .i64 (.ofNat 1)))⟩,
    ⟨530062, (some k13), none, .mv (.t k68)⟩]
def c53_21 : AC := .reg r53_20
def c53_22 : AC := .blk 3 c53_21
def c53_23 : AC := .seq c53_19 c53_22
def c53_24 : AC := .loop c53_23
def c53_25 : AC := .blk 2 c53_24
def r53_26 : List GI := [⟨530063, (some k69), none, .mv (.t k12)⟩,
    ⟨530064, (some k70), none, .mv (.t k13)⟩,
    ⟨530065, (some k71), none, .bin .gtr 0 (.t k69) (.t k70)⟩]
def c53_27 : AC := .reg r53_26
def r53_28 : List GI := [⟨530066, (some k72), none, .mv (.t k0)⟩,
    ⟨530067, (some k73), none, .mv (.t k13)⟩,
    ⟨530068, (some k74), none, .mv (.t k0)⟩,
    ⟨530069, (some k75), none, .mv (.t k1)⟩,
    ⟨530070, (some k76), none, .mv (.t k0)⟩,
    ⟨530071, (some k77), none, .mv (.t k1)⟩,
    ⟨530072, (some k78), none, .ia 1 none (.t k76) (.t k77)⟩,
    ⟨530073, (some k79), none, .load none (.t k78)⟩,
    ⟨530074, (some k80), none, .mv (.t k0)⟩,
    ⟨530075, (some k81), none, .mv (.t k13)⟩,
    ⟨530076, (some k82), none, .ia 1 none (.t k80) (.t k81)⟩,
    ⟨530077, (some k83), none, .load none (.t k82)⟩,
    ⟨530078, (some k84), none, .ia 1 none (.t k72) (.t k73)⟩,
    ⟨530079, none, none, .store 1 (.t k84) (.t k79)⟩,
    ⟨530080, (some k85), none, .ia 1 none (.t k74) (.t k75)⟩,
    ⟨530081, none, none, .store 1 (.t k85) (.t k83)⟩]
def c53_29 : AC := .drw r53_28 [0, 0, 0, 0, 0, 0, 48, 112, 0, 0, 768, 1792, 4083, 8179, 16383, 32767]
def r53_30 : List GI := [⟨530082, (some k86), none, .mv (.t k13)⟩,
    ⟨530083, (some k10), none, .mv (.t k86)⟩,
    ⟨530084, (some k11), none, .mv (.c (.b true))⟩]
def c53_31 : AC := .reg r53_30
def c53_32 : AC := .seq c53_31 .ret
def c53_33 : AC := .seq c53_29 c53_32
def c53_34 : AC := .cond (.t k71) c53_33 .skip
def c53_35 : AC := .seq c53_27 c53_34
def r53_36 : List GI := [⟨530085, (some k87), none, .mv (.t k0)⟩,
    ⟨530086, (some k88), none, .mv (.t k12)⟩,
    ⟨530087, (some k89), none, .mv (.t k0)⟩,
    ⟨530088, (some k90), none, .mv (.t k13)⟩,
    ⟨530089, (some k91), none, .mv (.t k0)⟩,
    ⟨530090, (some k92), none, .mv (.t k13)⟩,
    ⟨530091, (some k93), none, .ia 1 none (.t k91) (.t k92)⟩,
    ⟨530092, (some k94), none, .load none (.t k93)⟩,
    ⟨530093, (some k95), none, .mv (.t k0)⟩,
    ⟨530094, (some k96), none, .mv (.t k12)⟩,
    ⟨530095, (some k97), none, .ia 1 none (.t k95) (.t k96)⟩,
    ⟨530096, (some k98), none, .load none (.t k97)⟩,
    ⟨530097, (some k99), none, .ia 1 none (.t k87) (.t k88)⟩,
    ⟨530098, none, none, .store 1 (.t k99) (.t k94)⟩,
    ⟨530099, (some k100), none, .ia 1 none (.t k89) (.t k90)⟩,
    ⟨530100, none, none, .store 1 (.t k100) (.t k98)⟩]
def c53_37 : AC := .drw r53_36 [0, 0, 0, 0, 0, 0, 48, 112, 0, 0, 768, 1792, 4083, 8179, 16383, 32767]
def r53_38 : List GI := [⟨530101, (some k101), none, .mv (.t k12)⟩,
    ⟨530102, (some k102), none, .bin .add 0 (.t k101) (.c (.i .i64 (.ofNat 1)))⟩,
    ⟨530103, (some k12), none, .mv (.t k102)⟩]
def c53_39 : AC := .reg r53_38
def r53_40 : List GI := [⟨530104, (some k103), none, .mv (.t k13)⟩,
    ⟨530105, (some k104), none, .bin .sub 0 (.t k103) (.c (.i .i64 (.ofNat 1)))⟩,
    ⟨530106, (some k13), none, .mv (.t k104)⟩]
def c53_41 : AC := .reg r53_40
def r53_42 : List GI := [⟨530107, (some k105), none, .mv (.t k12)⟩,
    ⟨530108, (some k106), none, .mv (.t k13)⟩,
    ⟨530109, (some k107), none, .bin .leq 0 (.t k105) (.t k106)⟩,
    ⟨530110, (some k108), none, .mv (.t k107)⟩,
    ⟨530111, (some k109), (some (k108, true)), .mv (.t k4)⟩,
    ⟨530112, (some k110), (some (k108, true)), .mv (.t k0)⟩,
    ⟨530113, (some k111), (some (k108, true)), .mv (.t k12)⟩,
    ⟨530114, (some k112), (some (k108, true)), .ia 1 none (.t k110) (.t k111)⟩,
    ⟨530115, (some k113), (some (k108, true)), .load none (.t k112)⟩,
    ⟨530116, (some k114), (some (k108, true)), .mv (.t k0)⟩,
    ⟨530117, (some k115), (some (k108, true)), .mv (.t k1)⟩,
    ⟨530118, (some k116), (some (k108, true)), .ia 1 none (.t k114) (.t k115)⟩,
    ⟨530119, (some k117), (some (k108, true)), .load none (.t k116)⟩,
    ⟨530120, (some k118), (some (k108, true)), .call (.t k109) [(.t k113), (.t k117)]⟩,
    ⟨530121, (some k119), (some (k108, true)), .bin .lss 0 (.t k118) (.c (.i .i64 (.ofNat 0)))⟩,
    ⟨530122, (some k120), none, .pick (.t k108) (.t k119) (.c (.b false))⟩]
def c53_43 : AC := .drw r53_42 [0, 0, 3, 7, 15, 15, 15, 111, 239, 15, 15, 1551, 3599, 8191, 16383, 32767]
def c53_44 : AC := .cond (.t k120) .skip (.exit 6)
def c53_45 : AC := .seq c53_43 c53_44
def r53_46 : List GI := [⟨530123, (some k121), none, .mv (.t k12)⟩,
    ⟨530124, (some k122), none, .bin .add 0 (.t k121) (.c (.i .i64 (.ofNat 1)))⟩,
    ⟨530125, (some k12), none, .mv (.t k122)⟩]
def c53_47 : AC := .reg r53_46
def c53_48 : AC := .blk 7 c53_47
def c53_49 : AC := .seq c53_45 c53_48
def c53_50 : AC := .loop c53_49
def c53_51 : AC := .blk 6 c53_50
def r53_52 : List GI := [⟨530126, (some k123), none, .mv (.t k12)⟩,
    ⟨530127, (some k124), none, .mv (.t k13)⟩,
    ⟨530128, (some k125), none, .bin .leq 0 (.t k123) (.t k124)⟩,
    ⟨530129, (some k126), none, .mv (.t k125)⟩,
    ⟨530130, (some k127), (some (k126, true)), .mv (.t k4)⟩,
    ⟨530131, (some k128), (some (k126, true)), .mv (.t k0)⟩,
    ⟨530132, (some k129), (some (k126, true)), .mv (.t k13)⟩,
    ⟨530133, (some k130), (some (k126, true)), .ia 1 none (.t k128) (.t k129)⟩,
    ⟨530134, (some k131), (some (k126, true)), .load none (.t k130)⟩,
    ⟨530135, (some k132), (some (k126, true)), .mv (.t k0)⟩,
    ⟨530136, (some k133), (some (k126, true)), .mv (.t k1)⟩,
    ⟨530137, (some k134), (some (k126, true)), .ia 1 none (.t k132) (.t k133)⟩,
    ⟨530138, (some k135), (some (k126, true)), .load none (.t k134)⟩,
    ⟨530139, (some k136), (some (k126, true)), .call (.t k127) [(.t k131), (.t k135)]⟩,
    ⟨530140, (some k137), (some (k126, true)), .bin .lss 0 (.t k136) (.c (.i .i64 (.ofNat 0)))⟩,
    ⟨530141, (some k138), (some (k126, true)), .un .not (.t k137)⟩,
    ⟨530142, (some k139), none, .pick (.t k126) (.t k138) (.c (.b false))⟩]
def c53_53 : AC := .drw r53_52 [0, 0, 3, 7, 15, 15, 15, 111, 239, 15, 15, 1551, 3599, 8191, 16383, 32767, 65535]
def c53_54 : AC := .cond (.t k139) .skip (.exit 8)
def c53_55 : AC := .seq c53_53 c53_54
def r53_56 : List GI := [⟨530143, (some k140), none, .mv (.t k13)⟩,
    ⟨530144, (some k141), none, .bin .sub 0 (.t k140) (.c (.i .i64 (.ofNat 1)))⟩,
    ⟨530145, (some k13), none, .mv (.t k141)⟩]
def c53_57 : AC := .reg r53_56
def c53_58 : AC := .blk 9 c53_57
def c53_59 : AC := .seq c53_55 c53_58
def c53_60 : AC := .loop c53_59
def c53_61 : AC := .blk 8 c53_60
def r53_62 : List GI := [⟨530146, (some k142), none, .mv (.t k12)⟩,
    ⟨530147, (some k143), none, .mv (.t k13)⟩,
    ⟨530148, (some k144), none, .bin .gtr 0 (.t k142) (.t k143)⟩]
def c53_63 : AC := .reg r53_62
def c53_64 : AC := .cond (.t k144) (.exit 4) .skip
def c53_65 : AC := .seq c53_63 c53_64
def r53_66 : List GI := [⟨530149, (some k145), none, .mv (.t k0)⟩,
    ⟨530150, (some k146), none, .mv (.t k12)⟩,
    ⟨530151, (some k147), none, .mv (.t k0)⟩,
    ⟨530152, (some k148), none, .mv (.t k13)⟩,
    ⟨530153, (some k149), none, .mv (.t k0)⟩,
    ⟨530154, (some k150), none, .mv (.t k13)⟩,
    ⟨530155, (some k151), none, .ia 1 none (.t k149) (.t k150)⟩,
    ⟨530156, (some k152), none, .load none (.t k151)⟩,
    ⟨530157, (some k153), none, .mv (.t k0)⟩,
    ⟨530158, (some k154), none, .mv (.t k12)⟩,
    ⟨530159, (some k155), none, .ia 1 none (.t k153) (.t k154)⟩,
    ⟨530160, (some k156), none, .load none (.t k155)⟩,
    ⟨530161, (some k157), none, .ia 1 none (.t k145) (.t k146)⟩,
    ⟨530162, none, none, .store 1 (.t k157) (.t k152)⟩,
    ⟨530163, (some k158), none, .ia 1 none (.t k147) (.t k148)⟩,
    ⟨530164, none, none, .store 1 (.t k158) (.t k156)⟩]
def c53_67 : AC := .drw r53_66 [0, 0, 0, 0, 0, 0, 48, 112, 0, 0, 768, 1792, 4083, 8179, 16383, 32767]
def r53_68 : List GI := [⟨530165, (some k159), none, .mv (.t k12)⟩,
    ⟨530166, (some k160), none, .bin .add 0 (.t k159) (.c (.i .i64 (.ofNat 1)))⟩,
    ⟨530167, (some k12), none, .mv (.t k160)⟩]
def c53_69 : AC := .reg r53_68
def r53_70 : List GI := [⟨530168, (some k161), none, .mv (.t k13)⟩,
    ⟨530169, (some k162), none, .bin .sub 0 (.t k161) (.c (.i .i64 (.ofNat 1)))⟩,
    ⟨530170, (some k13), none, .mv (.t k162)⟩]
def c53_71 : AC := .reg r53_70
def c53_72 : AC := .seq c53_69 c53_71
def c53_73 : AC := .seq c53_67 c53_72
def c53_74 : AC := .seq c53_65 c53_73
def c53_75 : AC := .seq c53_61 c53_74
def c53_76 : AC := .seq c53_51 c53_75
def c53_77 : AC := .blk 5 c53_76
def c53_78 : AC := .loop c53_77
def c53_79 : AC := .blk 4 c53_78
def r53_80 : List GI := [⟨530171, (some k163), none, .mv (.t k0)⟩,
    ⟨530172, (some k164), none, .mv (.t k13)⟩,
    ⟨530173, (some k165), none, .mv (.t k0)⟩,
    ⟨530174, (some k166), none, .mv (.t k1)⟩,
    ⟨530175, (some k167), none, .mv (.t k0)⟩,
    ⟨530176, (some k168), none, .mv (.t k1)⟩,
    ⟨530177, (some k169), none, .ia 1 none (.t k167) (.t k168)⟩,
    ⟨530178, (some k170), none, .load none (.t k169)⟩,
    ⟨530179, (some k171), none, .mv (.t k0)⟩,
    ⟨530180, (some k172), none, .mv (.t k13)⟩,
    ⟨530181, (some k173), none, .ia 1 none (.t k171) (.t k172)⟩,
    ⟨530182, (some k174), none, .load none (.t k173)⟩,
    ⟨530183, (some k175), none, .ia 1 none (.t k163) (.t k164)⟩,
    ⟨530184, none, none, .store 1 (.t k175) (.t k170)⟩,
    ⟨530185, (some k176), none, .ia 1 none (.t k165) (.t k166)⟩,
    ⟨530186, none, none, .store 1 (.t k176) (.t k174)⟩]
def c53_81 : AC := .drw r53_80 [0, 0, 0, 0, 0, 0, 48, 112, 0, 0, 768, 1792, 4083, 8179, 16383, 32767]
def r53_82 : List GI := [⟨530187, (some k177), none, .mv (.t k13)⟩,
    ⟨530188, (some k10), none, .mv (.t k177)⟩,
    ⟨530189, (some k11), none, .mv (.c (.b false))⟩]
def c53_83 : AC := .reg r53_82
def c53_84 : AC := .seq c53_83 .ret
def c53_85 : AC := .seq c53_81 c53_84
def c53_86 : AC := .seq c53_79 c53_85
def c53_87 : AC := .seq c53_41 c53_86
def c53_88 : AC := .seq c53_39 c53_87
def c53_89 : AC := .seq c53_37 c53_88
def c53_90 : AC := .seq c53_35 c53_89
def c53_91 : AC := .seq c53_25 c53_90
def c53_92 : AC := .seq c53_15 c53_91
def c53_93 : AC := .seq c53_5 c53_92
def c53_94 : AC := .seq c53_3 c53_93
def c53_95 : AC := .seq c53_1 c53_94
def a53 : AFn := ⟨178, [.t k10, .t k11],
  c53_95⟩
theorem ok53 : chkF prog 53 a53 = true := by kernel_rfl
def r54_0 : List GI := [⟨540000, (some k2), none, .mv (.c (.i .i64 (.ofNat 0)))⟩]
def c54_1 : AC := .reg r54_0
def r54_2 : List GI := [⟨540001, (some k3), none, .mv (.t k0)⟩,
    ⟨540002, (some k4), none, .bin .geq 0 (.t k3) (.c (.i .u32 (.ofNat 65536)))⟩]
def c54_3 : AC := .reg r54_2
def r54_4 : List GI := [⟨540003, (some k5), none, .mv (.t k0)⟩,
    ⟨540004, (some k6), none, .bin .shr 0 (.t k5) (.c (.i .u64 (.ofNat 16)))⟩,
    ⟨540005, (some k0), none, .mv (.t k6)⟩]
def c54_5 : AC := .reg r54_4
def r54_6 : List GI := [⟨540006, (some k2), none, .mv (.c (.i .i64 (.ofNat 16)))⟩]
def c54_7 : AC := .reg r54_6
def c54_8 : AC := .seq c54_5 c54_7
def c54_9 : AC := .cond (.t k4) c54_8 .skip
def c54_10 : AC := .seq c54_3 c54_9
def r54_11 : List GI := [⟨540007, (some k7), none, .mv (.t k0)⟩,
    ⟨540008, (some k8), none, .bin .geq 0 (.t k7) (.c (.i .u32 (.ofNat 256)))⟩]
def c54_12 : AC := .reg r54_11
def r54_13 : List GI := [⟨540009, (some k9), none, .mv (.t k0)⟩,
    ⟨540010, (some k10), none, .bin .shr 0 (.t k9) (.c (.i .u64 (.ofNat 8)))⟩,
    ⟨540011, (some k0), none, .mv (.t k10)⟩]
def c54_14 : AC := .reg r54_13
def r54_15 : List GI := [⟨540012, (some k11), none, .mv (.t k2)⟩,
    ⟨540013, (some k12), none, .bin .add 0 (.t k11) (.c (.i .i64 (.ofNat 8)))⟩,
    ⟨540014, (some k2), none, .mv (.t k12)⟩]
def c54_16 : AC := .reg r54_15
def c54_17 : AC := .seq c54_14 c54_16
def c54_18 : AC := .cond (.t k8) c54_17 .skip
def c54_19 : AC := .seq c54_12 c54_18
def r54_20 : List GI := [⟨540015, (some k13), none, .mv (.t k2)⟩,
    ⟨540016, (some k14), none, .mv (.t k0)⟩,
    ⟨540017, (some k15), none, .conv .u8 (.t k14)⟩,
    ⟨540018, (some k16), none, .stab [0, 1, 2, 2, 3, 3, 3, 3, 4, 4, 4, 4, 4, 4, 4, 4, 5, 5, 5, 5, 5, 5, 5, 5, 5, 5, 5, 5, 5, 5, 5, 5, 6, 6, 6, 6, 6, 6, 6, 6, 6, 6, 6, 6, 6, 6, 6, 6, 6, 6, 6, 6, 6, 6, 6, 6, 6, 6, 6, 6, 6, 6, 6, 6, 7, 7, 7, 7, 7, 7, 7, 7, 7, 7, 7, 7, 7, 7, 7, 7, 7, 7, 7, 7, 7, 7, 7, 7, 7, 7, 7, 7, 7, 7, 7, 7, 7, 7, 7, 7, 7, 7, 7, 7, 7, 7, 7, 7, 7, 7, 7, 7, 7, 7, 7, 7, 7, 7, 7, 7, 7, 7, 7, 7, 7, 7, 7, 7, 8, 8, 8, 8, 8, 8, 8, 8, 8, 8, 8, 8, 8, 8, 8, 8, 8, 8, 8, 8, 8, 8, 8, 8, 8, 8, 8, 8, 8, 8, 8, 8, 8, 8, 8, 8, 8, 8, 8, 8, 8, 8, 8, 8, 8, 8, 8, 8, 8, 8, 8, 8, 8, 8, 8, 8, 8, 8, 8, 8, 8, 8, 8, 8, 8, 8, 8, 8, 8, 8, 8, 8, 8, 8, 8, 8, 8, 8, 8, 8, 8, 8, 8, 8, 8, 8, 8, 8, 8, 8, 8, 8, 8, 8, 8, 8, 8, 8, 8, 8, 8, 8, 8, 8, 8, 8, 8, 8, 8, 8, 8, 8, 8, 8, 8, 8, 8, 8, 8, 8, 8, 8, 8, 8, 8, 8, 8, 8] (.t k15)⟩,
    ⟨540019, (some k17), none, .conv .i64 (.t k16)⟩,
    ⟨540020, (some k18), none, .bin .add 0 (.t k13) (.t k17)⟩,
    ⟨540021, (some k2), none, .mv (.t k18)⟩]
def c54_21 : AC := .reg r54_20
def c54_22 : AC := .seq c54_21 .ret
def c54_23 : AC := .seq c54_19 c54_22
def c54_24 : AC := .seq c54_10 c54_23
def c54_25 : AC := .seq c54_1 c54_24
def a54 : AFn := ⟨19, [.t k2],
  c54_25⟩
theorem ok54 : chkF prog 54 a54 = true := by kernel_rfl
def r55_0 : List GI := [⟨550000, (some k2), none, .mv (.c (.i .i64 (.ofNat 0)))⟩]
def c55_1 : AC := .reg r55_0
def r55_2 : List GI := [⟨550001, (some k3), none, .mv (.t k0)⟩,
    ⟨550002, (some k4), none, .bin .geq 0 (.t k3) (.c (.i .u64 (.ofNat 4294967296)))⟩]
def c55_3 : AC := .reg r55_2
def r55_4 : List GI := [⟨550003, (some k5), none, .mv (.t k0)⟩,
    ⟨550004, (some k6), none, .bin .shr 0 (.t k5) (.c (.i .u64 (.ofNat 32)))⟩,
    ⟨550005, (some k0), none, .mv (.t k6)⟩]
def c55_5 : AC := .reg r55_4
def r55_6 : List GI := [⟨550006, (some k2), none, .mv (.c (.i .i64 (.ofNat 32)))⟩]
def c55_7 : AC := .reg r55_6
def c55_8 : AC := .seq c55_5 c55_7
def c55_9 : AC := .cond (.t k4) c55_8 .skip
def c55_10 : AC := .seq c55_3 c55_9
def r55_11 : List GI := [⟨550007, (some k7), none, .mv (.t k0)⟩,
    ⟨550008, (some k8), none, .bin .geq 0 (.t k7) (.c (.i .u64 (.ofNat 65536)))⟩]
def c55_12 : AC := .reg r55_11
def r55_13 : List GI := [⟨550009, (some k9), none, .mv (.t k0)⟩,
    ⟨550010, (some k10), none, .bin .shr 0 (.t k9) (.c (.i .u64 (.ofNat 16)))⟩,
    ⟨550011, (some k0), none, .mv (.t k10)⟩]
def c55_14 : AC := .reg r55_13
def r55_15 : List GI := [⟨550012, (some k11), none, .mv (.t k2)⟩,
    ⟨550013, (some k12), none, .bin .add 0 (.t k11) (.c (.i .i64 (.ofNat 16)))⟩,
    ⟨550014, (some k2), none, .mv (.t k12)⟩]
def c55_16 : AC := .reg r55_15
def c55_17 : AC := .seq c55_14 c55_16
def c55_18 : AC := .cond (.t k8) c55_17 .skip
def c55_19 : AC := .seq c55_12 c55_18
def r55_20 : List GI := [⟨550015, (some k13), none, .mv (.t k0)⟩,
    ⟨550016, (some k14), none, .bin .geq 0 (.t k13) (.c (.i .u64 (.ofNat 256)))⟩]
def c55_21 : AC := .reg r55_20
def r55_22 : List GI := [⟨550017, (some k15), none, .mv (.t k0)⟩,
    ⟨550018, (some k16), none, .bin .shr 0 (.t k15) (.c (.i .u64 (.ofNat 8)))⟩,
    ⟨550019, (some k0), none, .mv (.t k16)⟩]
def c55_23 : AC := .reg r55_22
def r55_24 : List GI := [⟨550020, (some k17), none, .mv (.t k2)⟩,
    ⟨550021, (some k18), none, .bin .add 0 (.t k17) (.c (.i .i64 (.ofNat 8)))⟩,
    ⟨550022, (some k2), none, .mv (.t k18)⟩]
def c55_25 : AC := .reg r55_24
def c55_26 : AC := .seq c55_23 c55_25
def c55_27 : AC := .cond (.t k14) c55_26 .skip
def c55_28 : AC := .seq c55_21 c55_27
def r55_29 : List GI := [⟨550023, (some k19), none, .mv (.t k2)⟩,
    ⟨550024, (some k20), none, .mv (.t k0)⟩,
    ⟨550025, (some k21), none, .conv .u8 (.t k20)⟩,
    ⟨550026, (some k22), none, .stab [0, 1, 2, 2, 3, 3, 3, 3, 4, 4, 4, 4, 4, 4, 4, 4, 5, 5, 5, 5, 5, 5, 5, 5, 5, 5, 5, 5, 5, 5, 5, 5, 6, 6, 6, 6, 6, 6, 6, 6, 6, 6, 6, 6, 6, 6, 6, 6, 6, 6, 6, 6, 6, 6, 6, 6, 6, 6, 6, 6, 6, 6, 6, 6, 7, 7, 7, 7, 7, 7, 7, 7, 7, 7, 7, 7, 7, 7, 7, 7, 7, 7, 7, 7, 7, 7, 7, 7, 7, 7, 7, 7, 7, 7, 7, 7, 7, 7, 7, 7, 7, 7, 7, 7, 7, 7, 7, 7, 7, 7, 7, 7, 7, 7, 7, 7, 7, 7, 7, 7, 7, 7, 7, 7, 7, 7, 7, 7, 8, 8, 8, 8, 8, 8, 8, 8, 8, 8, 8, 8, 8, 8, 8, 8, 8, 8, 8, 8, 8, 8, 8, 8, 8, 8, 8, 8, 8, 8, 8, 8, 8, 8, 8, 8, 8, 8, 8, 8, 8, 8, 8, 8, 8, 8, 8, 8, 8, 8, 8, 8, 8, 8, 8, 8, 8, 8, 8, 8, 8, 8, 8, 8, 8, 8, 8, 8, 8, 8, 8, 8, 8, 8, 8, 8, 8, 8, 8, 8, 8, 8, 8, 8, 8, 8, 8, 8, 8, 8, 8, 8, 8, 8, 8, 8, 8, 8, 8, 8, 8, 8, 8, 8, 8, 8, 8, 8, 8, 8, 8, 8, 8, 8, 8, 8, 8, 8, 8, 8, 8, 8, 8, 8, 8, 8, 8, 8] (.t k21)⟩,
    ⟨550027, (some k23), none, .conv .i64 (.t k22)⟩,
    ⟨550028, (some k24), none, .bin .add 0 (.t k19) (.t k23)⟩,
    ⟨550029, (some k2), none, .mv (.t k24)⟩]
def c55_30 : AC := .reg r55_29
def c55_31 : AC := .seq c55_30 .ret
def c55_32 : AC := .seq c55_28 c55_31
def c55_33 : AC := .seq c55_19 c55_32
def c55_34 : AC := .seq c55_10 c55_33
def c55_35 : AC := .seq c55_1 c55_34
def a55 : AFn := ⟨25, [.t k2],
  c55_35⟩
theorem ok55 : chkF prog 55 a55 = true := by kernel_rfl
def r56_0 : List GI := [⟨560000, (some k5), none, .mv (.t k0)⟩,
    ⟨560001, (some k6), none, .mv (.t k1)⟩,
    ⟨560002, (some k7), none, .nilc (.t k5)⟩,
    ⟨560003, (some k8), none, .fa 0 (.t k7)⟩,
    ⟨560004, none, none, .store 1 (.t k8) (.t k6)⟩]
def c56_1 : AC := .reg r56_0
def r56_2 : List GI := [⟨560005, (some k4), none, .mv (.fn 71)⟩]
def c56_3 : AC := .reg r56_2
def r56_4 : List GI := [⟨560006, (some k9), none, .mv (.t k0)⟩,
    ⟨560007, (some k10), none, .mv (.t k0)⟩,
    ⟨560008, (some k11), none, .mv (.t k0)⟩,
    ⟨560009, (some k12), none, .mv (.t k4)⟩,
    ⟨560010, (some k13), none, .mv (.t k0)⟩,
    ⟨560011, (some k14), none, .nilc (.t k13)⟩,
    ⟨560012, (some k15), none, .fa 3 (.t k14)⟩,
    ⟨560013, (some k16), none, .load none (.t k15)⟩,
    ⟨560014, (some k17), none, .mv (.t k1)⟩,
    ⟨560015, (some k18), none, .bin .add 0 (.t k17) (.c (.i .i64 (.ofNat 1)))⟩,
    ⟨560016, (some k19), none, .call (.t k12) [(.t k16), (.t k18)]⟩,
    ⟨560017, (some k20), none, .mv (.t k4)⟩,
    ⟨560018, (some k21), none, .mv (.t k0)⟩,
    ⟨560019, (some k22), none, .nilc (.t k21)⟩,
    ⟨560020, (some k23), none, .fa 4 (.t k22)⟩,
    ⟨560021, (some k24), none, .load none (.t k23)⟩,
    ⟨560022, (some k25), none, .mv (.t k1)⟩,
    ⟨560023, (some k26), none, .bin .add 0 (.t k25) (.c (.i .i64 (.ofNat 1)))⟩,
    ⟨560024, (some k27), none, .call (.t k20) [(.t k24), (.t k26)]⟩,
    ⟨560025, (some k28), none, .mv (.t k4)⟩,
    ⟨560026, (some k29), none, .mv (.t k0)⟩,
    ⟨560027, (some k30), none, .nilc (.t k29)⟩,
    ⟨560028, (some k31), none, .fa 5 (.t k30)⟩,
    ⟨560029, (some k32), none, .load none (.t k31)⟩,
    ⟨560030, (some k33), none, .mv (.t k1)⟩,
    ⟨560031, (some k34), none, .bin .add 0 (.t k33) (.c (.i .i64 (.ofNat 1)))⟩,
    ⟨560032, (some k35), none, .call (.t k28) [(.t k32), (.t k34)]⟩,
    ⟨560033, (some k36), none, .nilc (.t k9)⟩,
    ⟨560034, (some k37), none, .fa 3 (.t k36)⟩,
    ⟨560035, none, none, .store 1 (.t k37) (.t k19)⟩,
    ⟨560036, (some k38), none, .nilc (.t k10)⟩,
    ⟨560037, (some k39), none, .fa 4 (.t k38)⟩,
    ⟨560038, none, none, .store 1 (.t k39) (.t k27)⟩,
    ⟨560039, (some k40), none, .nilc (.t k11)⟩,
    ⟨560040, (some k41), none, .fa 5 (.t k40)⟩,
    ⟨560041, none, none, .store 1 (.t k41) (.t k35)⟩]
def c56_5 : AC := .drw r56_4 [0, 0, 0, 0, 0, 16, 48, 112, 0, 256, 1016, 0, 0, 4096, 12288, 28672, 0, 65536, 262136, 0, 0, 1048576, 3145728, 7340032, 0, 16777216, 67108856, 134217721, 268435449, 536870905, 1073741819, 2147483643, 4294967291, 8589934591, 17179869183, 34359738367]
def r56_6 : List GI := [⟨560042, (some k42), none, .mv (.t k0)⟩,
    ⟨560043, (some k43), none, .mv (.t k0)⟩,
    ⟨560044, (some k44), none, .mv (.t k4)⟩,
    ⟨560045, (some k45), none, .mv (.t k0)⟩,
    ⟨560046, (some k46), none, .nilc (.t k45)⟩,
    ⟨560047, (some k47), none, .fa 6 (.t k46)⟩,
    ⟨560048, (some k48), none, .load none (.t k47)⟩,
    ⟨560049, (some k49), none, .mv (.t k1)⟩,
    ⟨560050, (some k50), none, .bin .add 0 (.t k49) (.c (.i .i64 (.ofNat 1)))⟩,
    ⟨560051, (some k51), none, .call (.t k44) [(.t k48), (.t k50)]⟩,
    ⟨560052, (some k52), none, .mv (.t k4)⟩,
    ⟨560053, (some k53), none, .mv (.t k0)⟩,
    ⟨560054, (some k54), none, .nilc (.t k53)⟩,
    ⟨560055, (some k55), none, .fa 7 (.t k54)⟩,
    ⟨560056, (some k56), none, .load none (.t k55)⟩,
    ⟨560057, (some k57), none, .mv (.t k1)⟩,
    ⟨560058, (some k58), none, .bin .add 0 (.t k57) (.c (.i .i64 (.ofNat 1)))⟩,
    ⟨560059, (some k59), none, .call (.t k52) [(.t k56), (.t k58)]⟩,
    ⟨560060, (some k60), none, .nilc (.t k42)⟩,
    ⟨560061, (some k61), none, .fa 6 (.t k60)⟩,
    ⟨560062, none, none, .store 1 (.t k61) (.t k51)⟩,
    ⟨560063, (some k62), none, .nilc (.t k43)⟩,
    ⟨560064, (some k63), none, .fa 7 (.t k62)⟩,
    ⟨560065, none, none, .store 1 (.t k63) (.t k59)⟩]
def c56_7 : AC := .drw r56_6 [0, 0, 0, 0, 8, 24, 56, 0, 128, 508, 0, 0, 2048, 6144, 14336, 0, 32768, 131068, 262141, 524285, 1048573, 2097151, 4194303, 8388607]
def r56_8 : List GI := [⟨560066, (some k64), none, .mv (.t k0)⟩,
    ⟨560067, (some k65), none, .mv (.t k0)⟩,
    ⟨560068, (some k66), none, .nilc (.t k65)⟩,
    ⟨560069, (some k67), none, .fa 2 (.t k66)⟩,
    ⟨560070, (some k68), none, .load none (.t k67)⟩,
    ⟨560071, (some k69), none, .mv (.t k1)⟩,
    ⟨560072, (some k70), none, .bin .mul 0 (.c (.i .i64 (.ofNat 2))) (.t k69)⟩,
    ⟨560073, (some k71), none, .bin .add 0 (.t k70) (.c (.i .i64 (.ofNat 2)))⟩,
    ⟨560074, (some k72), none, .mv (.t k0)⟩,
    ⟨560075, (some k73), none, .nilc (.t k72)⟩,
    ⟨560076, (some k74), none, .fa 2 (.t k73)⟩,
    ⟨560077, (some k75), none, .load none (.t k74)⟩,
    ⟨560078, (some k76), none, .len 0 (.t k75)⟩,
    ⟨560079, (some k77), none, .bin .sub 0 (.t k71) (.t k76)⟩,
    ⟨560080, (some k78), none, .appz 24 1 [.nils] (.t k68) (.t k77)⟩,
    ⟨560081, (some k79), none, .nilc (.t k64)⟩,
    ⟨560082, (some k80), none, .fa 2 (.t k79)⟩,
    ⟨560083, none, none, .store 1 (.t k80) (.t k78)⟩]
def c56_9 : AC := .drw r56_8 [0, 0, 2, 6, 14, 0, 32, 96, 0, 256, 768, 1792, 3840, 8160, 16382, 32767, 65535, 131071]
def c56_10 : AC := .seq c56_7 c56_9
def c56_11 : AC := .seq c56_5 c56_10
def c56_12 : AC := .seq c56_3 c56_11
def c56_13 : AC := .seq c56_1 c56_12
def a56 : AFn := ⟨81, [],
  c56_13⟩
theorem ok56 : chkF prog 56 a56 = true := by kernel_rfl
def r57_0 : List GI := [⟨570000, (some k4), none, .mv (.t k0)⟩,
    ⟨570001, (some k5), none, .mv (.t k0)⟩,
    ⟨570002, (some k6), none, .nilc (.t k5)⟩,
    ⟨570003, (some k7), none, .load none (.t k6)⟩,
    ⟨570004, (some k8), none, .mv (.t k1)⟩,
    ⟨570005, (some k9), none, .bsl 24 1 1 [.nils] [(0, 1, (.t k8))]⟩,
    ⟨570006, (some k10), none, .app 24 1 (.t k7) (.t k9)⟩,
    ⟨570007, (some k11), none, .nilc (.t k4)⟩,
    ⟨570008, none, none, .store 1 (.t k11) (.t k10)⟩]
def c57_1 : AC := .reg r57_0
def a57 : AFn := ⟨12, [],
  c57_1⟩
theorem ok57 : chkF prog 57 a57 = true := by kernel_rfl
def r58_0 : List GI := [⟨580000, (some k4), none, .mv (.c (.i .i64 (.ofNat 0)))⟩]
def c58_1 : AC := .reg r58_0
def r58_2 : List GI := [⟨580001, (some k5), none, .mv (.t k0)⟩,
    ⟨580002, (some k6), none, .mv (.t k1)⟩,
    ⟨580003, (some k7), none, .call (.fn 72) [(.t k5), (.t k6)]⟩,
    ⟨580004, (some k4), none, .mv (.t k7)⟩]
def c58_3 : AC := .reg r58_2
def c58_4 : AC := .seq c58_3 .ret
def c58_5 : AC := .seq c58_1 c58_4
def a58 : AFn := ⟨8, [.t k4],
  c58_5⟩
theorem ok58 : chkF prog 58 a58 = true := by kernel_rfl
def r59_0 : List GI := [⟨590000, (some k2), none, .mv (.t k0)⟩,
    ⟨590001, (some k3), none, .mv (.t k0)⟩,
    ⟨590002, (some k4), none, .mv (.t k0)⟩,
    ⟨590003, (some k5), none, .nilc (.t k2)⟩,
    ⟨590004, (some k6), none, .fa 15 (.t k5)⟩,
    ⟨590005, none, none, .store 1 (.t k6) (.c (.i .i64 (.ofNat 0)))⟩,
    ⟨590006, (some k7), none, .nilc (.t k3)⟩,
    ⟨590007, (some k8), none, .fa 16 (.t k7)⟩,
    ⟨590008, none, none, .store 1 (.t k8) (.c .nils)⟩,
    ⟨590009, (some k9), none, .nilc (.t k4)⟩,
    ⟨590010, (some k10), none, .fa 17 (.t k9)⟩,
    ⟨590011, none, none, .store 1 (.t k10) (.c .nils)⟩]
def c59_1 : AC := .reg r59_0
def a59 : AFn := ⟨11, [],
  c59_1⟩
theorem ok59 : chkF prog 59 a59 = true := by kernel_rfl
def r60_0 : List GI := [⟨600000, (some k2), none, .box 57 (.t k0)⟩,
    ⟨600001, (some k4), none, .mv (.c (.b false))⟩]
def c60_1 : AC := .reg r60_0
def r60_2 : List GI := [⟨600002, (some k5), none, .mv (.t k1)⟩,
    ⟨600003, (some k6), none, .mkf 73 [] [(.t k2)]⟩,
    ⟨600004, (some k7), none, .call (.fn 26) [(.t k5), (.t k6)]⟩,
    ⟨600005, (some k8), none, .un .not (.t k7)⟩,
    ⟨600006, (some k4), none, .mv (.t k8)⟩]
def c60_3 : AC := .reg r60_2
def c60_4 : AC := .seq c60_3 .ret
def c60_5 : AC := .seq c60_1 c60_4
def a60 : AFn := ⟨9, [.t k4],
  c60_5⟩
theorem ok60 : chkF prog 60 a60 = true := by kernel_rfl
def r61_0 : List GI := [⟨610000, (some k8), none, .mv (.t k1)⟩,
    ⟨610001, (some k9), none, .mv (.t k0)⟩,
    ⟨610002, (some k10), none, .nilc (.t k9)⟩,
    ⟨610003, (some k11), none, .fa 11 (.t k10)⟩,
    ⟨610004, (some k12), none, .load none (.t k11)⟩,
    ⟨610005, (some k13), none, .len 0 (.t k12)⟩,
    ⟨610006, (some k14), none, .bin .geq 0 (.t k8) (.t k13)⟩]
def c61_1 : AC := .reg r61_0
def c61_2 : AC := .cond (.t k14) .ret .skip
def c61_3 : AC := .seq c61_1 c61_2
def r61_4 : List GI := [⟨610007, (some k15), none, .mv (.t k0)⟩,
    ⟨610008, (some k16), none, .nilc (.t k15)⟩,
    ⟨610009, (some k17), none, .fa 11 (.t k16)⟩,
    ⟨610010, (some k18), none, .load none (.t k17)⟩,
    ⟨610011, (some k19), none, .mv (.t k1)⟩,
    ⟨610012, (some k20), none, .ia 1 none (.t k18) (.t k19)⟩,
    ⟨610013, (some k21), none, .load none (.t k20)⟩,
    ⟨610014, (some k4), none, .mv (.t k21)⟩]
def c61_5 : AC := .reg r61_4
def r61_6 : List GI := [⟨610015, (some k22), none, .mv (.t k0)⟩,
    ⟨610016, (some k23), none, .nilc (.t k22)⟩,
    ⟨610017, (some k24), none, .fa 10 (.t k23)⟩,
    ⟨610018, (some k25), none, .load none (.t k24)⟩,
    ⟨610019, (some k26), none, .mv (.t k4)⟩,
    ⟨610020, (some k27), none, .slice 1 (.t k25) (some (.t k26)) none none⟩,
    ⟨610021, (some k28), none, .len 0 (.t k27)⟩,
    ⟨610022, (some k29), none, .mv (.c (.i .i64 (.ofNat 0)))⟩]
def c61_7 : AC := .reg r61_6
def r61_8 : List GI := [⟨610023, (some k30), none, .bin .lss 0 (.t k29) (.t k28)⟩]
def c61_9 : AC := .reg r61_8
def c61_10 : AC := .cond (.t k30) .skip (.exit 0)
def r61_11 : List GI := [⟨610024, (some k31), none, .ia 1 none (.t k27) (.t k29)⟩,
    ⟨610025, (some k32), none, .load none (.t k31)⟩,
    ⟨610026, (some k6), none, .mv (.t k32)⟩]
def c61_12 : AC := .reg r61_11
def r61_13 : List GI := [⟨610027, (some k33), none, .mv (.t k6)⟩,
    ⟨610028, (some k34), none, .call (.fn 74) [(.t k33)]⟩,
    ⟨610029, (some k7), none, .mv (.t k34)⟩]
def c61_14 : AC := .reg r61_13
def r61_15 : List GI := [⟨610030, (some k35), none, .mv (.t k0)⟩,
    ⟨610031, (some k36), none, .nilc (.t k35)⟩,
    ⟨610032, (some k37), none, .fa 6 (.t k36)⟩,
    ⟨610033, (some k38), none, .load none (.t k37)⟩,
    ⟨610034, (some k39), none, .mv (.t k7)⟩,
    ⟨610035, (some k40), none, .mv (.t k0)⟩,
    ⟨610036, (some k41), none, .nilc (.t k40)⟩,
    ⟨610037, (some k42), none, .fa 3 (.t k41)⟩,
    ⟨610038, (some k43), none, .load none (.t k42)⟩,
    ⟨610039, (some k44), none, .mv (.t k7)⟩,
    ⟨610040, (some k45), none, .mv (.t k0)⟩,
    ⟨610041, (some k46), none, .mv (.t k0)⟩,
    ⟨610042, (some k47), none, .nilc (.t k46)⟩,
    ⟨610043, (some k48), none, .fa 3 (.t k47)⟩,
    ⟨610044, (some k49), none, .load none (.t k48)⟩,
    ⟨610045, (some k50), none, .mv (.t k7)⟩,
    ⟨610046, (some k51), none, .ia 1 none (.t k49) (.t k50)⟩,
    ⟨610047, (some k52), none, .load none (.t k51)⟩,
    ⟨610048, (some k53), none, .mv (.t k0)⟩,
    ⟨610049, (some k54), none, .nilc (.t k53)⟩,
    ⟨610050, (some k55), none, .fa 9 (.t k54)⟩,
    ⟨610051, (some k56), none, .load none (.t k55)⟩,
    ⟨610052, (some k57), none, .mv (.t k7)⟩,
    ⟨610053, (some k58), none, .mm false [(.t k56), (.t k57)]⟩,
    ⟨610054, (some k59), none, .ia 1 none (.t k38) (.t k39)⟩,
    ⟨610055, none, none, .store 1 (.t k59) (.t k52)⟩,
    ⟨610056, (some k60), none, .ia 1 none (.t k43) (.t k44)⟩,
    ⟨610057, none, none, .store 1 (.t k60) (.c (.i .i64 (.ofNat 0)))⟩,
    ⟨610058, (some k61), none, .nilc (.t k45)⟩,
    ⟨610059, (some k62), none, .fa 9 (.t k61)⟩,
    ⟨610060, none, none, .store 1 (.t k62) (.t k58)⟩]
def c61_16 : AC := .drw r61_15 [0, 1, 3, 7, 0, 0, 32, 96, 224, 0, 0, 0, 2048, 6144, 14336, 0, 63488, 129024, 0, 262144, 786432, 1835008, 0, 8126464, 4192767, 20969983, 54524927, 121633791, 268435455, 536870911, 1073741823]
def c61_17 : AC := .seq c61_14 c61_16
def c61_18 : AC := .seq c61_12 c61_17
def c61_19 : AC := .blk 1 c61_18
def r61_20 : List GI := [⟨610061, (some k63), none, .bin .add 0 (.t k29) (.c (.i .i64 (.ofNat 1)))⟩,
    ⟨610062, (some k29), none, .mv (.t k63)⟩]
def c61_21 : AC := .reg r61_20
def c61_22 : AC := .seq c61_19 c61_21
def c61_23 : AC := .seq c61_10 c61_22
def c61_24 : AC := .seq c61_9 c61_23
def c61_25 : AC := .loop c61_24
def c61_26 : AC := .blk 0 c61_25
def c61_27 : AC := .seq c61_7 c61_26
def r61_28 : List GI := [⟨610063, (some k64), none, .mv (.t k0)⟩,
    ⟨610064, (some k65), none, .mv (.t k0)⟩,
    ⟨610065, (some k66), none, .mv (.t k0)⟩,
    ⟨610066, (some k67), none, .mv (.t k0)⟩,
    ⟨610067, (some k68), none, .nilc (.t k67)⟩,
    ⟨610068, (some k69), none, .fa 10 (.t k68)⟩,
    ⟨610069, (some k70), none, .load none (.t k69)⟩,
    ⟨610070, (some k71), none, .mv (.t k4)⟩,
    ⟨610071, (some k72), none, .slice 1 (.t k70) none (some (.t k71)) none⟩,
    ⟨610072, (some k73), none, .mv (.t k0)⟩,
    ⟨610073, (some k74), none, .nilc (.t k73)⟩,
    ⟨610074, (some k75), none, .fa 11 (.t k74)⟩,
    ⟨610075, (some k76), none, .load none (.t k75)⟩,
    ⟨610076, (some k77), none, .mv (.t k1)⟩,
    ⟨610077, (some k78), none, .slice 1 (.t k76) none (some (.t k77)) none⟩,
    ⟨610078, (some k79), none, .mv (.t k4)⟩,
    ⟨610079, (some k80), none, .nilc (.t k64)⟩,
    ⟨610080, (some k81), none, .fa 10 (.t k80)⟩,
    ⟨610081, none, none, .store 1 (.t k81) (.t k72)⟩,
    ⟨610082, (some k82), none, .nilc (.t k65)⟩,
    ⟨610083, (some k83), none, .fa 11 (.t k82)⟩,
    ⟨610084, none, none, .store 1 (.t k83) (.t k78)⟩,
    ⟨610085, (some k84), none, .nilc (.t k66)⟩,
    ⟨610086, (some k85), none, .fa 12 (.t k84)⟩,
    ⟨610087, none, none, .store 1 (.t k85) (.t k79)⟩]
def c61_29 : AC := .drw r61_28 [0, 0, 0, 0, 8, 24, 56, 0, 248, 0, 512, 1536, 3584, 0, 15872, 0, 8185, 73721, 204793, 491515, 1015803, 2064379, 4194303, 8388607, 16777215]
def c61_30 : AC := .seq c61_27 c61_29
def c61_31 : AC := .seq c61_5 c61_30
def c61_32 : AC := .seq c61_3 c61_31
def a61 : AFn := ⟨86, [],
  c61_32⟩
theorem ok61 : chkF prog 61 a61 = true := by kernel_rfl
def r62_0 : List GI := [⟨620000, (some k4), none, .mv (.c (.i .i64 (.ofNat 0)))⟩]
def c62_1 : AC := .reg r62_0
def r62_2 : List GI := [⟨620001, (some k5), none, .mv (.t k1)⟩,
    ⟨620002, (some k6), none, .bin .lss 0 (.t k5) (.c (.i .i64 (.ofNat 0)))⟩]
def c62_3 : AC := .reg r62_2
def r62_4 : List GI := [⟨620003, (some k7), none, .mv (.t k0)⟩,
    ⟨620004, (some k8), none, .nilc (.t k7)⟩,
    ⟨620005, (some k9), none, .fa 3 (.t k8)⟩,
    ⟨620006, (some k10), none, .load none (.t k9)⟩,
    ⟨620007, (some k11), none, .mv (.t k1)⟩,
    ⟨620008, (some k12), none, .un .neg (.t k11)⟩,
    ⟨620009, (some k13), none, .ia 1 none (.t k10) (.t k12)⟩,
    ⟨620010, (some k14), none, .load none (.t k13)⟩,
    ⟨620011, (some k15), none, .un .neg (.t k14)⟩,
    ⟨620012, (some k4), none, .mv (.t k15)⟩]
def c62_5 : AC := .reg r62_4
def c62_6 : AC := .seq c62_5 .ret
def c62_7 : AC := .cond (.t k6) c62_6 .skip
def c62_8 : AC := .seq c62_3 c62_7
def r62_9 : List GI := [⟨620013, (some k16), none, .mv (.t k0)⟩,
    ⟨620014, (some k17), none, .nilc (.t k16)⟩,
    ⟨620015, (some k18), none, .fa 3 (.t k17)⟩,
    ⟨620016, (some k19), none, .load none (.t k18)⟩,
    ⟨620017, (some k20), none, .mv (.t k1)⟩,
    ⟨620018, (some k21), none, .ia 1 none (.t k19) (.t k20)⟩,
    ⟨620019, (some k22), none, .load none (.t k21)⟩,
    ⟨620020, (some k4), none, .mv (.t k22)⟩]
def c62_10 : AC := .reg r62_9
def c62_11 : AC := .seq c62_10 .ret
def c62_12 : AC := .seq c62_8 c62_11
def c62_13 : AC := .seq c62_1 c62_12
def a62 : AFn := ⟨23, [.t k4],
  c62_13⟩
theorem ok62 : chkF prog 62 a62 = true := by kernel_rfl
def r63_0 : List GI := [⟨630000, (some k7), none, .mv (.t k1)⟩,
    ⟨630001, (some k8), none, .call (.fn 74) [(.t k7)]⟩,
    ⟨630002, (some k6), none, .mv (.t k8)⟩]
def c63_1 : AC := .reg r63_0
def r63_2 : List GI := [⟨630003, (some k9), none, .mv (.t k0)⟩,
    ⟨630004, (some k10), none, .nilc (.t k9)⟩,
    ⟨630005, (some k11), none, .fa 3 (.t k10)⟩,
    ⟨630006, (some k12), none, .load none (.t k11)⟩,
    ⟨630007, (some k13), none, .mv (.t k6)⟩,
    ⟨630008, (some k14), none, .ia 1 none (.t k12) (.t k13)⟩,
    ⟨630009, none, none, .store 1 (.t k14) (.c (.i .i64 (.ofNat 1)))⟩]
def c63_3 : AC := .reg r63_2
def r63_4 : List GI := [⟨630010, (some k15), none, .mv (.t k1)⟩,
    ⟨630011, (some k16), none, .bin .lss 0 (.t k15) (.c (.i .i64 (.ofNat 0)))⟩]
def c63_5 : AC := .reg r63_4
def r63_6 : List GI := [⟨630012, (some k17), none, .mv (.t k0)⟩,
    ⟨630013, (some k18), none, .nilc (.t k17)⟩,
    ⟨630014, (some k19), none, .fa 3 (.t k18)⟩,
    ⟨630015, (some k20), none, .load none (.t k19)⟩,
    ⟨630016, (some k21), none, .mv (.t k6)⟩,
    ⟨630017, (some k22), none, .ia 1 none (.t k20) (.t k21)⟩,
    ⟨630018, none, none, .store 1 (.t k22) (.c (.i .i64 (.negSucc 0)))⟩]
def c63_7 : AC := .reg r63_6
def c63_8 : AC := .cond (.t k16) c63_7 .skip
def c63_9 : AC := .seq c63_5 c63_8
def r63_10 : List GI := [⟨630019, (some k23), none, .mv (.t k0)⟩,
    ⟨630020, (some k24), none, .nilc (.t k23)⟩,
    ⟨630021, (some k25), none, .fa 4 (.t k24)⟩,
    ⟨630022, (some k26), none, .load none (.t k25)⟩,
    ⟨630023, (some k27), none, .mv (.t k6)⟩,
    ⟨630024, (some k28), none, .mv (.t k0)⟩,
    ⟨630025, (some k29), none, .nilc (.t k28)⟩,
    ⟨630026, (some k30), none, .fa 5 (.t k29)⟩,
    ⟨630027, (some k31), none, .load none (.t k30)⟩,
    ⟨630028, (some k32), none, .mv (.t k6)⟩,
    ⟨630029, (some k33), none, .mv (.t k0)⟩,
    ⟨630030, (some k34), none, .nilc (.t k33)⟩,
    ⟨630031, (some k35), none, .fa 11 (.t k34)⟩,
    ⟨630032, (some k36), none, .load none (.t k35)⟩,
    ⟨630033, (some k37), none, .len 0 (.t k36)⟩,
    ⟨630034, (some k38), none, .mv (.t k2)⟩,
    ⟨630035, (some k39), none, .ia 1 none (.t k26) (.t k27)⟩,
    ⟨630036, none, none, .store 1 (.t k39) (.t k37)⟩,
    ⟨630037, (some k40), none, .ia 1 none (.t k31) (.t k32)⟩,
    ⟨630038, none, none, .store 1 (.t k40) (.t k38)⟩]
def c63_11 : AC := .drw r63_10 [0, 1, 3, 7, 0, 0, 32, 96, 224, 0, 0, 1024, 3072, 7168, 15360, 0, 32255, 97791, 262143, 524287]
def r63_12 : List GI := [⟨630039, (some k41), none, .mv (.t k0)⟩,
    ⟨630040, (some k42), none, .mv (.t k0)⟩,
    ⟨630041, (some k43), none, .nilc (.t k42)⟩,
    ⟨630042, (some k44), none, .fa 10 (.t k43)⟩,
    ⟨630043, (some k45), none, .load none (.t k44)⟩,
    ⟨630044, (some k46), none, .mv (.t k1)⟩,
    ⟨630045, (some k47), none, .bsl 3 1 1 [(.i .i64 (.ofNat 0))] [(0, 1, (.t k46))]⟩,
    ⟨630046, (some k48), none, .app 3 1 (.t k45) (.t k47)⟩,
    ⟨630047, (some k49), none, .nilc (.t k41)⟩,
    ⟨630048, (some k50), none, .fa 10 (.t k49)⟩,
    ⟨630049, none, none, .store 1 (.t k50) (.t k48)⟩]
def c63_13 : AC := .reg r63_12
def c63_14 : AC := .seq c63_11 c63_13
def c63_15 : AC := .seq c63_9 c63_14
def c63_16 : AC := .seq c63_3 c63_15
def c63_17 : AC := .seq c63_1 c63_16
def a63 : AFn := ⟨51, [],
  c63_17⟩
theorem ok63 : chkF prog 63 a63 = true := by kernel_rfl
end Go.Ax.Try
