/- Part 2: What is known of this seat's types and functions, as instances. Written by inst; geo, and the document's own numbers of chips: what each answers; The document's numbers of chips; how many sectors bytes need, and slots. -/
import Derived.Test.YtbpilaghemkdjaaGreatDoorPs1
import Derived.Test.YtbpilaghemkdjaaGreatDoorProg
import Derived.Lib.MakeNoZero
import Derived.Laws.Externs
set_option linter.all false
/- What is known of this seat's types and functions, as instances. Written by inst.py out of the names that the load laid. -/
namespace Go.Sep
open Go Go.Proofs
abbrev iu0 := UT.mk Tryz.underlying0
abbrev ia0 := AG.mk Tryz.isAgg0
abbrev is0 := SZ.mk Tryz.sizeOf0
abbrev it0 := TI.mk Tryz.typeInfo0
abbrev iu1 := UT.mk Tryz.underlying1
abbrev ia1 := AG.mk Tryz.isAgg1
abbrev is1 := SZ.mk Tryz.sizeOf1
abbrev it1 := TI.mk Tryz.typeInfo1
abbrev iu2 := UT.mk Tryz.underlying2
abbrev ia2 := AG.mk Tryz.isAgg2
abbrev is2 := SZ.mk Tryz.sizeOf2
abbrev it2 := TI.mk Tryz.typeInfo2
abbrev iz2 := ZV.mk Tryz.zeroValue2
abbrev iu3 := UT.mk Tryz.underlying3
abbrev ia3 := AG.mk Tryz.isAgg3
abbrev is3 := SZ.mk Tryz.sizeOf3
abbrev it3 := TI.mk Tryz.typeInfo3
abbrev iz3 := ZV.mk Tryz.zeroValue3
abbrev iu4 := UT.mk Tryz.underlying4
abbrev ia4 := AG.mk Tryz.isAgg4
abbrev is4 := SZ.mk Tryz.sizeOf4
abbrev it4 := TI.mk Tryz.typeInfo4
abbrev iz4 := ZV.mk Tryz.zeroValue4
abbrev iu5 := UT.mk Tryz.underlying5
abbrev ia5 := AG.mk Tryz.isAgg5
abbrev is5 := SZ.mk Tryz.sizeOf5
abbrev it5 := TI.mk Tryz.typeInfo5
abbrev iz5 := ZV.mk Tryz.zeroValue5
abbrev iu6 := UT.mk Tryz.underlying6
abbrev ia6 := AG.mk Tryz.isAgg6
abbrev is6 := SZ.mk Tryz.sizeOf6
abbrev it6 := TI.mk Tryz.typeInfo6
abbrev iz6 := ZV.mk Tryz.zeroValue6
abbrev iu7 := UT.mk Tryz.underlying7
abbrev ia7 := AG.mk Tryz.isAgg7
abbrev is7 := SZ.mk Tryz.sizeOf7
abbrev it7 := TI.mk Tryz.typeInfo7
abbrev iz7 := ZV.mk Tryz.zeroValue7
abbrev iu8 := UT.mk Tryz.underlying8
abbrev ia8 := AG.mk Tryz.isAgg8
abbrev is8 := SZ.mk Tryz.sizeOf8
abbrev it8 := TI.mk Tryz.typeInfo8
abbrev iz8 := ZV.mk Tryz.zeroValue8
abbrev iu9 := UT.mk Tryz.underlying9
abbrev ia9 := AG.mk Tryz.isAgg9
abbrev is9 := SZ.mk Tryz.sizeOf9
abbrev it9 := TI.mk Tryz.typeInfo9
abbrev iz9 := ZV.mk Tryz.zeroValue9
abbrev iu10 := UT.mk Tryz.underlying10
abbrev ia10 := AG.mk Tryz.isAgg10
abbrev is10 := SZ.mk Tryz.sizeOf10
abbrev it10 := TI.mk Tryz.typeInfo10
abbrev iz10 := ZV.mk Tryz.zeroValue10
abbrev iu11 := UT.mk Tryz.underlying11
abbrev ia11 := AG.mk Tryz.isAgg11
abbrev is11 := SZ.mk Tryz.sizeOf11
abbrev it11 := TI.mk Tryz.typeInfo11
abbrev iz11 := ZV.mk Tryz.zeroValue11
abbrev iu12 := UT.mk Tryz.underlying12
abbrev ia12 := AG.mk Tryz.isAgg12
abbrev is12 := SZ.mk Tryz.sizeOf12
abbrev it12 := TI.mk Tryz.typeInfo12
abbrev iz12 := ZV.mk Tryz.zeroValue12
abbrev iu13 := UT.mk Tryz.underlying13
abbrev ia13 := AG.mk Tryz.isAgg13
abbrev is13 := SZ.mk Tryz.sizeOf13
abbrev it13 := TI.mk Tryz.typeInfo13
abbrev iz13 := ZV.mk Tryz.zeroValue13
abbrev iu14 := UT.mk Tryz.underlying14
abbrev ia14 := AG.mk Tryz.isAgg14
abbrev is14 := SZ.mk Tryz.sizeOf14
abbrev it14 := TI.mk Tryz.typeInfo14
abbrev iz14 := ZV.mk Tryz.zeroValue14
abbrev iu15 := UT.mk Tryz.underlying15
abbrev ia15 := AG.mk Tryz.isAgg15
abbrev is15 := SZ.mk Tryz.sizeOf15
abbrev it15 := TI.mk Tryz.typeInfo15
abbrev iz15 := ZV.mk Tryz.zeroValue15
abbrev iu16 := UT.mk Tryz.underlying16
abbrev ia16 := AG.mk Tryz.isAgg16
abbrev is16 := SZ.mk Tryz.sizeOf16
abbrev it16 := TI.mk Tryz.typeInfo16
abbrev iz16 := ZV.mk Tryz.zeroValue16
abbrev iu17 := UT.mk Tryz.underlying17
abbrev ia17 := AG.mk Tryz.isAgg17
abbrev is17 := SZ.mk Tryz.sizeOf17
abbrev it17 := TI.mk Tryz.typeInfo17
abbrev iz17 := ZV.mk Tryz.zeroValue17
abbrev iu18 := UT.mk Tryz.underlying18
abbrev ia18 := AG.mk Tryz.isAgg18
abbrev is18 := SZ.mk Tryz.sizeOf18
abbrev it18 := TI.mk Tryz.typeInfo18
abbrev iz18 := ZV.mk Tryz.zeroValue18
abbrev iu19 := UT.mk Tryz.underlying19
abbrev ia19 := AG.mk Tryz.isAgg19
abbrev is19 := SZ.mk Tryz.sizeOf19
abbrev it19 := TI.mk Tryz.typeInfo19
abbrev iz19 := ZV.mk Tryz.zeroValue19
abbrev iu20 := UT.mk Tryz.underlying20
abbrev ia20 := AG.mk Tryz.isAgg20
abbrev is20 := SZ.mk Tryz.sizeOf20
abbrev it20 := TI.mk Tryz.typeInfo20
abbrev iu21 := UT.mk Tryz.underlying21
abbrev ia21 := AG.mk Tryz.isAgg21
abbrev is21 := SZ.mk Tryz.sizeOf21
abbrev it21 := TI.mk Tryz.typeInfo21
abbrev iz21 := ZV.mk Tryz.zeroValue21
abbrev iu22 := UT.mk Tryz.underlying22
abbrev ia22 := AG.mk Tryz.isAgg22
abbrev is22 := SZ.mk Tryz.sizeOf22
abbrev it22 := TI.mk Tryz.typeInfo22
abbrev iz22 := ZV.mk Tryz.zeroValue22
abbrev iu23 := UT.mk Tryz.underlying23
abbrev ia23 := AG.mk Tryz.isAgg23
abbrev is23 := SZ.mk Tryz.sizeOf23
abbrev it23 := TI.mk Tryz.typeInfo23
abbrev iz23 := ZV.mk Tryz.zeroValue23
abbrev iu24 := UT.mk Tryz.underlying24
abbrev ia24 := AG.mk Tryz.isAgg24
abbrev is24 := SZ.mk Tryz.sizeOf24
abbrev it24 := TI.mk Tryz.typeInfo24
abbrev iz24 := ZV.mk Tryz.zeroValue24
abbrev iu25 := UT.mk Tryz.underlying25
abbrev ia25 := AG.mk Tryz.isAgg25
abbrev is25 := SZ.mk Tryz.sizeOf25
abbrev it25 := TI.mk Tryz.typeInfo25
abbrev iu26 := UT.mk Tryz.underlying26
abbrev ia26 := AG.mk Tryz.isAgg26
abbrev is26 := SZ.mk Tryz.sizeOf26
abbrev it26 := TI.mk Tryz.typeInfo26
abbrev iu27 := UT.mk Tryz.underlying27
abbrev ia27 := AG.mk Tryz.isAgg27
abbrev is27 := SZ.mk Tryz.sizeOf27
abbrev it27 := TI.mk Tryz.typeInfo27
abbrev iu28 := UT.mk Tryz.underlying28
abbrev ia28 := AG.mk Tryz.isAgg28
abbrev is28 := SZ.mk Tryz.sizeOf28
abbrev it28 := TI.mk Tryz.typeInfo28
abbrev iz28 := ZV.mk Tryz.zeroValue28
abbrev iu29 := UT.mk Tryz.underlying29
abbrev ia29 := AG.mk Tryz.isAgg29
abbrev is29 := SZ.mk Tryz.sizeOf29
abbrev it29 := TI.mk Tryz.typeInfo29
abbrev iz29 := ZV.mk Tryz.zeroValue29
abbrev iu30 := UT.mk Tryz.underlying30
abbrev ia30 := AG.mk Tryz.isAgg30
abbrev is30 := SZ.mk Tryz.sizeOf30
abbrev it30 := TI.mk Tryz.typeInfo30
abbrev iu31 := UT.mk Tryz.underlying31
abbrev ia31 := AG.mk Tryz.isAgg31
abbrev is31 := SZ.mk Tryz.sizeOf31
abbrev it31 := TI.mk Tryz.typeInfo31
abbrev iu32 := UT.mk Tryz.underlying32
abbrev ia32 := AG.mk Tryz.isAgg32
abbrev is32 := SZ.mk Tryz.sizeOf32
abbrev it32 := TI.mk Tryz.typeInfo32
abbrev iz32 := ZV.mk Tryz.zeroValue32
abbrev iu33 := UT.mk Tryz.underlying33
abbrev ia33 := AG.mk Tryz.isAgg33
abbrev is33 := SZ.mk Tryz.sizeOf33
abbrev it33 := TI.mk Tryz.typeInfo33
abbrev iu34 := UT.mk Tryz.underlying34
abbrev ia34 := AG.mk Tryz.isAgg34
abbrev is34 := SZ.mk Tryz.sizeOf34
abbrev it34 := TI.mk Tryz.typeInfo34
abbrev iz34 := ZV.mk Tryz.zeroValue34
abbrev iu35 := UT.mk Tryz.underlying35
abbrev ia35 := AG.mk Tryz.isAgg35
abbrev is35 := SZ.mk Tryz.sizeOf35
abbrev it35 := TI.mk Tryz.typeInfo35
abbrev iz35 := ZV.mk Tryz.zeroValue35
abbrev iu36 := UT.mk Tryz.underlying36
abbrev ia36 := AG.mk Tryz.isAgg36
abbrev is36 := SZ.mk Tryz.sizeOf36
abbrev it36 := TI.mk Tryz.typeInfo36
abbrev iz36 := ZV.mk Tryz.zeroValue36
abbrev iu37 := UT.mk Tryz.underlying37
abbrev ia37 := AG.mk Tryz.isAgg37
abbrev is37 := SZ.mk Tryz.sizeOf37
abbrev it37 := TI.mk Tryz.typeInfo37
abbrev iz37 := ZV.mk Tryz.zeroValue37
abbrev iu38 := UT.mk Tryz.underlying38
abbrev ia38 := AG.mk Tryz.isAgg38
abbrev is38 := SZ.mk Tryz.sizeOf38
abbrev it38 := TI.mk Tryz.typeInfo38
abbrev iz38 := ZV.mk Tryz.zeroValue38
abbrev iu39 := UT.mk Tryz.underlying39
abbrev ia39 := AG.mk Tryz.isAgg39
abbrev is39 := SZ.mk Tryz.sizeOf39
abbrev it39 := TI.mk Tryz.typeInfo39
abbrev iu40 := UT.mk Tryz.underlying40
abbrev ia40 := AG.mk Tryz.isAgg40
abbrev is40 := SZ.mk Tryz.sizeOf40
abbrev it40 := TI.mk Tryz.typeInfo40
abbrev iu41 := UT.mk Tryz.underlying41
abbrev ia41 := AG.mk Tryz.isAgg41
abbrev is41 := SZ.mk Tryz.sizeOf41
abbrev it41 := TI.mk Tryz.typeInfo41
abbrev iu42 := UT.mk Tryz.underlying42
abbrev ia42 := AG.mk Tryz.isAgg42
abbrev is42 := SZ.mk Tryz.sizeOf42
abbrev it42 := TI.mk Tryz.typeInfo42
abbrev iu43 := UT.mk Tryz.underlying43
abbrev ia43 := AG.mk Tryz.isAgg43
abbrev is43 := SZ.mk Tryz.sizeOf43
abbrev it43 := TI.mk Tryz.typeInfo43
abbrev iu44 := UT.mk Tryz.underlying44
abbrev ia44 := AG.mk Tryz.isAgg44
abbrev is44 := SZ.mk Tryz.sizeOf44
abbrev it44 := TI.mk Tryz.typeInfo44
abbrev iu45 := UT.mk Tryz.underlying45
abbrev ia45 := AG.mk Tryz.isAgg45
abbrev is45 := SZ.mk Tryz.sizeOf45
abbrev it45 := TI.mk Tryz.typeInfo45
abbrev iz45 := ZV.mk Tryz.zeroValue45
abbrev iu46 := UT.mk Tryz.underlying46
abbrev ia46 := AG.mk Tryz.isAgg46
abbrev is46 := SZ.mk Tryz.sizeOf46
abbrev it46 := TI.mk Tryz.typeInfo46
abbrev iz46 := ZV.mk Tryz.zeroValue46
abbrev iu47 := UT.mk Tryz.underlying47
abbrev ia47 := AG.mk Tryz.isAgg47
abbrev is47 := SZ.mk Tryz.sizeOf47
abbrev it47 := TI.mk Tryz.typeInfo47
abbrev iu48 := UT.mk Tryz.underlying48
abbrev ia48 := AG.mk Tryz.isAgg48
abbrev is48 := SZ.mk Tryz.sizeOf48
abbrev it48 := TI.mk Tryz.typeInfo48
abbrev iu49 := UT.mk Tryz.underlying49
abbrev ia49 := AG.mk Tryz.isAgg49
abbrev is49 := SZ.mk Tryz.sizeOf49
abbrev it49 := TI.mk Tryz.typeInfo49
abbrev iu50 := UT.mk Tryz.underlying50
abbrev ia50 := AG.mk Tryz.isAgg50
abbrev is50 := SZ.mk Tryz.sizeOf50
abbrev it50 := TI.mk Tryz.typeInfo50
abbrev iu51 := UT.mk Tryz.underlying51
abbrev ia51 := AG.mk Tryz.isAgg51
abbrev is51 := SZ.mk Tryz.sizeOf51
abbrev it51 := TI.mk Tryz.typeInfo51
abbrev iu52 := UT.mk Tryz.underlying52
abbrev ia52 := AG.mk Tryz.isAgg52
abbrev is52 := SZ.mk Tryz.sizeOf52
abbrev it52 := TI.mk Tryz.typeInfo52
abbrev iu53 := UT.mk Tryz.underlying53
abbrev ia53 := AG.mk Tryz.isAgg53
abbrev is53 := SZ.mk Tryz.sizeOf53
abbrev it53 := TI.mk Tryz.typeInfo53
abbrev iu54 := UT.mk Tryz.underlying54
abbrev ia54 := AG.mk Tryz.isAgg54
abbrev is54 := SZ.mk Tryz.sizeOf54
abbrev it54 := TI.mk Tryz.typeInfo54
abbrev iu55 := UT.mk Tryz.underlying55
abbrev ia55 := AG.mk Tryz.isAgg55
abbrev is55 := SZ.mk Tryz.sizeOf55
abbrev it55 := TI.mk Tryz.typeInfo55
abbrev iz55 := ZV.mk Tryz.zeroValue55
abbrev iu56 := UT.mk Tryz.underlying56
abbrev ia56 := AG.mk Tryz.isAgg56
abbrev is56 := SZ.mk Tryz.sizeOf56
abbrev it56 := TI.mk Tryz.typeInfo56
abbrev iz56 := ZV.mk Tryz.zeroValue56
abbrev iu57 := UT.mk Tryz.underlying57
abbrev ia57 := AG.mk Tryz.isAgg57
abbrev is57 := SZ.mk Tryz.sizeOf57
abbrev it57 := TI.mk Tryz.typeInfo57
abbrev iz57 := ZV.mk Tryz.zeroValue57
abbrev iu58 := UT.mk Tryz.underlying58
abbrev ia58 := AG.mk Tryz.isAgg58
abbrev is58 := SZ.mk Tryz.sizeOf58
abbrev it58 := TI.mk Tryz.typeInfo58
abbrev iz58 := ZV.mk Tryz.zeroValue58
abbrev iu59 := UT.mk Tryz.underlying59
abbrev ia59 := AG.mk Tryz.isAgg59
abbrev is59 := SZ.mk Tryz.sizeOf59
abbrev it59 := TI.mk Tryz.typeInfo59
abbrev iu60 := UT.mk Tryz.underlying60
abbrev ia60 := AG.mk Tryz.isAgg60
abbrev is60 := SZ.mk Tryz.sizeOf60
abbrev it60 := TI.mk Tryz.typeInfo60
abbrev iu61 := UT.mk Tryz.underlying61
abbrev ia61 := AG.mk Tryz.isAgg61
abbrev is61 := SZ.mk Tryz.sizeOf61
abbrev it61 := TI.mk Tryz.typeInfo61
abbrev iu62 := UT.mk Tryz.underlying62
abbrev ia62 := AG.mk Tryz.isAgg62
abbrev is62 := SZ.mk Tryz.sizeOf62
abbrev it62 := TI.mk Tryz.typeInfo62
abbrev iu63 := UT.mk Tryz.underlying63
abbrev ia63 := AG.mk Tryz.isAgg63
abbrev is63 := SZ.mk Tryz.sizeOf63
abbrev it63 := TI.mk Tryz.typeInfo63
abbrev iu64 := UT.mk Tryz.underlying64
abbrev ia64 := AG.mk Tryz.isAgg64
abbrev is64 := SZ.mk Tryz.sizeOf64
abbrev it64 := TI.mk Tryz.typeInfo64
abbrev iu65 := UT.mk Tryz.underlying65
abbrev ia65 := AG.mk Tryz.isAgg65
abbrev is65 := SZ.mk Tryz.sizeOf65
abbrev it65 := TI.mk Tryz.typeInfo65
abbrev iu66 := UT.mk Tryz.underlying66
abbrev ia66 := AG.mk Tryz.isAgg66
abbrev is66 := SZ.mk Tryz.sizeOf66
abbrev it66 := TI.mk Tryz.typeInfo66
abbrev iz66 := ZV.mk Tryz.zeroValue66
abbrev iu67 := UT.mk Tryz.underlying67
abbrev ia67 := AG.mk Tryz.isAgg67
abbrev is67 := SZ.mk Tryz.sizeOf67
abbrev it67 := TI.mk Tryz.typeInfo67
abbrev iu68 := UT.mk Tryz.underlying68
abbrev ia68 := AG.mk Tryz.isAgg68
abbrev is68 := SZ.mk Tryz.sizeOf68
abbrev it68 := TI.mk Tryz.typeInfo68
abbrev iu69 := UT.mk Tryz.underlying69
abbrev ia69 := AG.mk Tryz.isAgg69
abbrev is69 := SZ.mk Tryz.sizeOf69
abbrev it69 := TI.mk Tryz.typeInfo69
abbrev iu70 := UT.mk Tryz.underlying70
abbrev ia70 := AG.mk Tryz.isAgg70
abbrev is70 := SZ.mk Tryz.sizeOf70
abbrev it70 := TI.mk Tryz.typeInfo70
abbrev iu71 := UT.mk Tryz.underlying71
abbrev ia71 := AG.mk Tryz.isAgg71
abbrev is71 := SZ.mk Tryz.sizeOf71
abbrev it71 := TI.mk Tryz.typeInfo71
abbrev iu72 := UT.mk Tryz.underlying72
abbrev ia72 := AG.mk Tryz.isAgg72
abbrev is72 := SZ.mk Tryz.sizeOf72
abbrev it72 := TI.mk Tryz.typeInfo72
abbrev iu73 := UT.mk Tryz.underlying73
abbrev ia73 := AG.mk Tryz.isAgg73
abbrev is73 := SZ.mk Tryz.sizeOf73
abbrev it73 := TI.mk Tryz.typeInfo73
abbrev iu74 := UT.mk Tryz.underlying74
abbrev ia74 := AG.mk Tryz.isAgg74
abbrev is74 := SZ.mk Tryz.sizeOf74
abbrev it74 := TI.mk Tryz.typeInfo74
abbrev iu75 := UT.mk Tryz.underlying75
abbrev ia75 := AG.mk Tryz.isAgg75
abbrev is75 := SZ.mk Tryz.sizeOf75
abbrev it75 := TI.mk Tryz.typeInfo75
abbrev iu76 := UT.mk Tryz.underlying76
abbrev ia76 := AG.mk Tryz.isAgg76
abbrev is76 := SZ.mk Tryz.sizeOf76
abbrev it76 := TI.mk Tryz.typeInfo76
abbrev iu77 := UT.mk Tryz.underlying77
abbrev ia77 := AG.mk Tryz.isAgg77
abbrev is77 := SZ.mk Tryz.sizeOf77
abbrev it77 := TI.mk Tryz.typeInfo77
abbrev iu78 := UT.mk Tryz.underlying78
abbrev ia78 := AG.mk Tryz.isAgg78
abbrev is78 := SZ.mk Tryz.sizeOf78
abbrev it78 := TI.mk Tryz.typeInfo78
abbrev iz78 := ZV.mk Tryz.zeroValue78
abbrev iu79 := UT.mk Tryz.underlying79
abbrev ia79 := AG.mk Tryz.isAgg79
abbrev is79 := SZ.mk Tryz.sizeOf79
abbrev it79 := TI.mk Tryz.typeInfo79
abbrev iz79 := ZV.mk Tryz.zeroValue79
abbrev iu80 := UT.mk Tryz.underlying80
abbrev ia80 := AG.mk Tryz.isAgg80
abbrev is80 := SZ.mk Tryz.sizeOf80
abbrev it80 := TI.mk Tryz.typeInfo80
abbrev iz80 := ZV.mk Tryz.zeroValue80
abbrev iu81 := UT.mk Tryz.underlying81
abbrev ia81 := AG.mk Tryz.isAgg81
abbrev is81 := SZ.mk Tryz.sizeOf81
abbrev it81 := TI.mk Tryz.typeInfo81
abbrev iu82 := UT.mk Tryz.underlying82
abbrev ia82 := AG.mk Tryz.isAgg82
abbrev is82 := SZ.mk Tryz.sizeOf82
abbrev it82 := TI.mk Tryz.typeInfo82
abbrev iu83 := UT.mk Tryz.underlying83
abbrev ia83 := AG.mk Tryz.isAgg83
abbrev is83 := SZ.mk Tryz.sizeOf83
abbrev it83 := TI.mk Tryz.typeInfo83
abbrev iu84 := UT.mk Tryz.underlying84
abbrev ia84 := AG.mk Tryz.isAgg84
abbrev is84 := SZ.mk Tryz.sizeOf84
abbrev it84 := TI.mk Tryz.typeInfo84
abbrev iu85 := UT.mk Tryz.underlying85
abbrev ia85 := AG.mk Tryz.isAgg85
abbrev is85 := SZ.mk Tryz.sizeOf85
abbrev it85 := TI.mk Tryz.typeInfo85
abbrev iu86 := UT.mk Tryz.underlying86
abbrev ia86 := AG.mk Tryz.isAgg86
abbrev is86 := SZ.mk Tryz.sizeOf86
abbrev it86 := TI.mk Tryz.typeInfo86
abbrev iu87 := UT.mk Tryz.underlying87
abbrev ia87 := AG.mk Tryz.isAgg87
abbrev is87 := SZ.mk Tryz.sizeOf87
abbrev it87 := TI.mk Tryz.typeInfo87
abbrev iu88 := UT.mk Tryz.underlying88
abbrev ia88 := AG.mk Tryz.isAgg88
abbrev is88 := SZ.mk Tryz.sizeOf88
abbrev it88 := TI.mk Tryz.typeInfo88
abbrev iz88 := ZV.mk Tryz.zeroValue88
abbrev iu89 := UT.mk Tryz.underlying89
abbrev ia89 := AG.mk Tryz.isAgg89
abbrev is89 := SZ.mk Tryz.sizeOf89
abbrev it89 := TI.mk Tryz.typeInfo89
abbrev iz89 := ZV.mk Tryz.zeroValue89
abbrev iu90 := UT.mk Tryz.underlying90
abbrev ia90 := AG.mk Tryz.isAgg90
abbrev is90 := SZ.mk Tryz.sizeOf90
abbrev it90 := TI.mk Tryz.typeInfo90
abbrev iz90 := ZV.mk Tryz.zeroValue90
abbrev iu91 := UT.mk Tryz.underlying91
abbrev ia91 := AG.mk Tryz.isAgg91
abbrev is91 := SZ.mk Tryz.sizeOf91
abbrev it91 := TI.mk Tryz.typeInfo91
abbrev iz91 := ZV.mk Tryz.zeroValue91
abbrev iu92 := UT.mk Tryz.underlying92
abbrev ia92 := AG.mk Tryz.isAgg92
abbrev is92 := SZ.mk Tryz.sizeOf92
abbrev it92 := TI.mk Tryz.typeInfo92
abbrev iu93 := UT.mk Tryz.underlying93
abbrev ia93 := AG.mk Tryz.isAgg93
abbrev is93 := SZ.mk Tryz.sizeOf93
abbrev it93 := TI.mk Tryz.typeInfo93
abbrev iu94 := UT.mk Tryz.underlying94
abbrev ia94 := AG.mk Tryz.isAgg94
abbrev is94 := SZ.mk Tryz.sizeOf94
abbrev it94 := TI.mk Tryz.typeInfo94
abbrev iu95 := UT.mk Tryz.underlying95
abbrev ia95 := AG.mk Tryz.isAgg95
abbrev is95 := SZ.mk Tryz.sizeOf95
abbrev it95 := TI.mk Tryz.typeInfo95
abbrev iz95 := ZV.mk Tryz.zeroValue95
abbrev iu96 := UT.mk Tryz.underlying96
abbrev ia96 := AG.mk Tryz.isAgg96
abbrev is96 := SZ.mk Tryz.sizeOf96
abbrev it96 := TI.mk Tryz.typeInfo96
abbrev iz96 := ZV.mk Tryz.zeroValue96
abbrev iu97 := UT.mk Tryz.underlying97
abbrev ia97 := AG.mk Tryz.isAgg97
abbrev is97 := SZ.mk Tryz.sizeOf97
abbrev it97 := TI.mk Tryz.typeInfo97
abbrev iu98 := UT.mk Tryz.underlying98
abbrev ia98 := AG.mk Tryz.isAgg98
abbrev is98 := SZ.mk Tryz.sizeOf98
abbrev it98 := TI.mk Tryz.typeInfo98
abbrev iu99 := UT.mk Tryz.underlying99
abbrev ia99 := AG.mk Tryz.isAgg99
abbrev is99 := SZ.mk Tryz.sizeOf99
abbrev it99 := TI.mk Tryz.typeInfo99
abbrev iz99 := ZV.mk Tryz.zeroValue99
abbrev iu100 := UT.mk Tryz.underlying100
abbrev ia100 := AG.mk Tryz.isAgg100
abbrev is100 := SZ.mk Tryz.sizeOf100
abbrev it100 := TI.mk Tryz.typeInfo100
abbrev iz100 := ZV.mk Tryz.zeroValue100
abbrev iu101 := UT.mk Tryz.underlying101
abbrev ia101 := AG.mk Tryz.isAgg101
abbrev is101 := SZ.mk Tryz.sizeOf101
abbrev it101 := TI.mk Tryz.typeInfo101
abbrev iu102 := UT.mk Tryz.underlying102
abbrev ia102 := AG.mk Tryz.isAgg102
abbrev is102 := SZ.mk Tryz.sizeOf102
abbrev it102 := TI.mk Tryz.typeInfo102
abbrev iu103 := UT.mk Tryz.underlying103
abbrev ia103 := AG.mk Tryz.isAgg103
abbrev is103 := SZ.mk Tryz.sizeOf103
abbrev it103 := TI.mk Tryz.typeInfo103
abbrev iu104 := UT.mk Tryz.underlying104
abbrev ia104 := AG.mk Tryz.isAgg104
abbrev is104 := SZ.mk Tryz.sizeOf104
abbrev it104 := TI.mk Tryz.typeInfo104
abbrev iz104 := ZV.mk Tryz.zeroValue104
abbrev iu105 := UT.mk Tryz.underlying105
abbrev ia105 := AG.mk Tryz.isAgg105
abbrev is105 := SZ.mk Tryz.sizeOf105
abbrev it105 := TI.mk Tryz.typeInfo105
abbrev iz105 := ZV.mk Tryz.zeroValue105
abbrev iu106 := UT.mk Tryz.underlying106
abbrev ia106 := AG.mk Tryz.isAgg106
abbrev is106 := SZ.mk Tryz.sizeOf106
abbrev it106 := TI.mk Tryz.typeInfo106
abbrev iu107 := UT.mk Tryz.underlying107
abbrev ia107 := AG.mk Tryz.isAgg107
abbrev is107 := SZ.mk Tryz.sizeOf107
abbrev it107 := TI.mk Tryz.typeInfo107
abbrev iu108 := UT.mk Tryz.underlying108
abbrev ia108 := AG.mk Tryz.isAgg108
abbrev is108 := SZ.mk Tryz.sizeOf108
abbrev it108 := TI.mk Tryz.typeInfo108
abbrev iu109 := UT.mk Tryz.underlying109
abbrev ia109 := AG.mk Tryz.isAgg109
abbrev is109 := SZ.mk Tryz.sizeOf109
abbrev it109 := TI.mk Tryz.typeInfo109
abbrev iu110 := UT.mk Tryz.underlying110
abbrev ia110 := AG.mk Tryz.isAgg110
abbrev is110 := SZ.mk Tryz.sizeOf110
abbrev it110 := TI.mk Tryz.typeInfo110
abbrev iu111 := UT.mk Tryz.underlying111
abbrev ia111 := AG.mk Tryz.isAgg111
abbrev is111 := SZ.mk Tryz.sizeOf111
abbrev it111 := TI.mk Tryz.typeInfo111
abbrev iz111 := ZV.mk Tryz.zeroValue111
abbrev iu112 := UT.mk Tryz.underlying112
abbrev ia112 := AG.mk Tryz.isAgg112
abbrev is112 := SZ.mk Tryz.sizeOf112
abbrev it112 := TI.mk Tryz.typeInfo112
abbrev iu113 := UT.mk Tryz.underlying113
abbrev ia113 := AG.mk Tryz.isAgg113
abbrev is113 := SZ.mk Tryz.sizeOf113
abbrev it113 := TI.mk Tryz.typeInfo113
abbrev iz113 := ZV.mk Tryz.zeroValue113
abbrev iu114 := UT.mk Tryz.underlying114
abbrev ia114 := AG.mk Tryz.isAgg114
abbrev is114 := SZ.mk Tryz.sizeOf114
abbrev it114 := TI.mk Tryz.typeInfo114
abbrev iz114 := ZV.mk Tryz.zeroValue114
abbrev iu115 := UT.mk Tryz.underlying115
abbrev ia115 := AG.mk Tryz.isAgg115
abbrev is115 := SZ.mk Tryz.sizeOf115
abbrev it115 := TI.mk Tryz.typeInfo115
abbrev iu116 := UT.mk Tryz.underlying116
abbrev ia116 := AG.mk Tryz.isAgg116
abbrev is116 := SZ.mk Tryz.sizeOf116
abbrev it116 := TI.mk Tryz.typeInfo116
abbrev iu117 := UT.mk Tryz.underlying117
abbrev ia117 := AG.mk Tryz.isAgg117
abbrev is117 := SZ.mk Tryz.sizeOf117
abbrev it117 := TI.mk Tryz.typeInfo117
abbrev iu118 := UT.mk Tryz.underlying118
abbrev ia118 := AG.mk Tryz.isAgg118
abbrev is118 := SZ.mk Tryz.sizeOf118
abbrev it118 := TI.mk Tryz.typeInfo118
abbrev iz118 := ZV.mk Tryz.zeroValue118
abbrev iu119 := UT.mk Tryz.underlying119
abbrev ia119 := AG.mk Tryz.isAgg119
abbrev is119 := SZ.mk Tryz.sizeOf119
abbrev it119 := TI.mk Tryz.typeInfo119
abbrev iz119 := ZV.mk Tryz.zeroValue119
abbrev iu120 := UT.mk Tryz.underlying120
abbrev ia120 := AG.mk Tryz.isAgg120
abbrev is120 := SZ.mk Tryz.sizeOf120
abbrev it120 := TI.mk Tryz.typeInfo120
abbrev iz120 := ZV.mk Tryz.zeroValue120
abbrev iu121 := UT.mk Tryz.underlying121
abbrev ia121 := AG.mk Tryz.isAgg121
abbrev is121 := SZ.mk Tryz.sizeOf121
abbrev it121 := TI.mk Tryz.typeInfo121
abbrev iz121 := ZV.mk Tryz.zeroValue121
abbrev iu122 := UT.mk Tryz.underlying122
abbrev ia122 := AG.mk Tryz.isAgg122
abbrev is122 := SZ.mk Tryz.sizeOf122
abbrev it122 := TI.mk Tryz.typeInfo122
abbrev iu123 := UT.mk Tryz.underlying123
abbrev ia123 := AG.mk Tryz.isAgg123
abbrev is123 := SZ.mk Tryz.sizeOf123
abbrev it123 := TI.mk Tryz.typeInfo123
abbrev iz123 := ZV.mk Tryz.zeroValue123
abbrev iu124 := UT.mk Tryz.underlying124
abbrev ia124 := AG.mk Tryz.isAgg124
abbrev is124 := SZ.mk Tryz.sizeOf124
abbrev it124 := TI.mk Tryz.typeInfo124
abbrev iz124 := ZV.mk Tryz.zeroValue124
abbrev iu125 := UT.mk Tryz.underlying125
abbrev ia125 := AG.mk Tryz.isAgg125
abbrev is125 := SZ.mk Tryz.sizeOf125
abbrev it125 := TI.mk Tryz.typeInfo125
abbrev iu126 := UT.mk Tryz.underlying126
abbrev ia126 := AG.mk Tryz.isAgg126
abbrev is126 := SZ.mk Tryz.sizeOf126
abbrev it126 := TI.mk Tryz.typeInfo126
abbrev iu127 := UT.mk Tryz.underlying127
abbrev ia127 := AG.mk Tryz.isAgg127
abbrev is127 := SZ.mk Tryz.sizeOf127
abbrev it127 := TI.mk Tryz.typeInfo127
abbrev iu128 := UT.mk Tryz.underlying128
abbrev ia128 := AG.mk Tryz.isAgg128
abbrev is128 := SZ.mk Tryz.sizeOf128
abbrev it128 := TI.mk Tryz.typeInfo128
abbrev iz128 := ZV.mk Tryz.zeroValue128
abbrev iu129 := UT.mk Tryz.underlying129
abbrev ia129 := AG.mk Tryz.isAgg129
abbrev is129 := SZ.mk Tryz.sizeOf129
abbrev it129 := TI.mk Tryz.typeInfo129
abbrev iu130 := UT.mk Tryz.underlying130
abbrev ia130 := AG.mk Tryz.isAgg130
abbrev is130 := SZ.mk Tryz.sizeOf130
abbrev it130 := TI.mk Tryz.typeInfo130
abbrev iu131 := UT.mk Tryz.underlying131
abbrev ia131 := AG.mk Tryz.isAgg131
abbrev is131 := SZ.mk Tryz.sizeOf131
abbrev it131 := TI.mk Tryz.typeInfo131
abbrev iu132 := UT.mk Tryz.underlying132
abbrev ia132 := AG.mk Tryz.isAgg132
abbrev is132 := SZ.mk Tryz.sizeOf132
abbrev it132 := TI.mk Tryz.typeInfo132
abbrev iu133 := UT.mk Tryz.underlying133
abbrev ia133 := AG.mk Tryz.isAgg133
abbrev is133 := SZ.mk Tryz.sizeOf133
abbrev it133 := TI.mk Tryz.typeInfo133
abbrev iz133 := ZV.mk Tryz.zeroValue133
abbrev iu134 := UT.mk Tryz.underlying134
abbrev ia134 := AG.mk Tryz.isAgg134
abbrev is134 := SZ.mk Tryz.sizeOf134
abbrev it134 := TI.mk Tryz.typeInfo134
abbrev iz134 := ZV.mk Tryz.zeroValue134
abbrev iu135 := UT.mk Tryz.underlying135
abbrev ia135 := AG.mk Tryz.isAgg135
abbrev is135 := SZ.mk Tryz.sizeOf135
abbrev it135 := TI.mk Tryz.typeInfo135
abbrev iu136 := UT.mk Tryz.underlying136
abbrev ia136 := AG.mk Tryz.isAgg136
abbrev is136 := SZ.mk Tryz.sizeOf136
abbrev it136 := TI.mk Tryz.typeInfo136
abbrev iu137 := UT.mk Tryz.underlying137
abbrev ia137 := AG.mk Tryz.isAgg137
abbrev is137 := SZ.mk Tryz.sizeOf137
abbrev it137 := TI.mk Tryz.typeInfo137
abbrev iu138 := UT.mk Tryz.underlying138
abbrev ia138 := AG.mk Tryz.isAgg138
abbrev is138 := SZ.mk Tryz.sizeOf138
abbrev it138 := TI.mk Tryz.typeInfo138
abbrev iu139 := UT.mk Tryz.underlying139
abbrev ia139 := AG.mk Tryz.isAgg139
abbrev is139 := SZ.mk Tryz.sizeOf139
abbrev it139 := TI.mk Tryz.typeInfo139
abbrev iu140 := UT.mk Tryz.underlying140
abbrev ia140 := AG.mk Tryz.isAgg140
abbrev is140 := SZ.mk Tryz.sizeOf140
abbrev it140 := TI.mk Tryz.typeInfo140
abbrev iu141 := UT.mk Tryz.underlying141
abbrev ia141 := AG.mk Tryz.isAgg141
abbrev is141 := SZ.mk Tryz.sizeOf141
abbrev it141 := TI.mk Tryz.typeInfo141
abbrev iu142 := UT.mk Tryz.underlying142
abbrev ia142 := AG.mk Tryz.isAgg142
abbrev is142 := SZ.mk Tryz.sizeOf142
abbrev it142 := TI.mk Tryz.typeInfo142
abbrev iu143 := UT.mk Tryz.underlying143
abbrev ia143 := AG.mk Tryz.isAgg143
abbrev is143 := SZ.mk Tryz.sizeOf143
abbrev it143 := TI.mk Tryz.typeInfo143
abbrev iu144 := UT.mk Tryz.underlying144
abbrev ia144 := AG.mk Tryz.isAgg144
abbrev is144 := SZ.mk Tryz.sizeOf144
abbrev it144 := TI.mk Tryz.typeInfo144
abbrev iu145 := UT.mk Tryz.underlying145
abbrev ia145 := AG.mk Tryz.isAgg145
abbrev is145 := SZ.mk Tryz.sizeOf145
abbrev it145 := TI.mk Tryz.typeInfo145
abbrev iz145 := ZV.mk Tryz.zeroValue145
abbrev iu146 := UT.mk Tryz.underlying146
abbrev ia146 := AG.mk Tryz.isAgg146
abbrev is146 := SZ.mk Tryz.sizeOf146
abbrev it146 := TI.mk Tryz.typeInfo146
abbrev iu147 := UT.mk Tryz.underlying147
abbrev ia147 := AG.mk Tryz.isAgg147
abbrev is147 := SZ.mk Tryz.sizeOf147
abbrev it147 := TI.mk Tryz.typeInfo147
abbrev iu148 := UT.mk Tryz.underlying148
abbrev ia148 := AG.mk Tryz.isAgg148
abbrev is148 := SZ.mk Tryz.sizeOf148
abbrev it148 := TI.mk Tryz.typeInfo148
abbrev iu149 := UT.mk Tryz.underlying149
abbrev ia149 := AG.mk Tryz.isAgg149
abbrev is149 := SZ.mk Tryz.sizeOf149
abbrev it149 := TI.mk Tryz.typeInfo149
abbrev iu150 := UT.mk Tryz.underlying150
abbrev ia150 := AG.mk Tryz.isAgg150
abbrev is150 := SZ.mk Tryz.sizeOf150
abbrev it150 := TI.mk Tryz.typeInfo150
abbrev iu151 := UT.mk Tryz.underlying151
abbrev ia151 := AG.mk Tryz.isAgg151
abbrev is151 := SZ.mk Tryz.sizeOf151
abbrev it151 := TI.mk Tryz.typeInfo151
abbrev iu152 := UT.mk Tryz.underlying152
abbrev ia152 := AG.mk Tryz.isAgg152
abbrev is152 := SZ.mk Tryz.sizeOf152
abbrev it152 := TI.mk Tryz.typeInfo152
abbrev iu153 := UT.mk Tryz.underlying153
abbrev ia153 := AG.mk Tryz.isAgg153
abbrev is153 := SZ.mk Tryz.sizeOf153
abbrev it153 := TI.mk Tryz.typeInfo153
abbrev iu154 := UT.mk Tryz.underlying154
abbrev ia154 := AG.mk Tryz.isAgg154
abbrev is154 := SZ.mk Tryz.sizeOf154
abbrev it154 := TI.mk Tryz.typeInfo154
abbrev iu155 := UT.mk Tryz.underlying155
abbrev ia155 := AG.mk Tryz.isAgg155
abbrev is155 := SZ.mk Tryz.sizeOf155
abbrev it155 := TI.mk Tryz.typeInfo155
abbrev iu156 := UT.mk Tryz.underlying156
abbrev ia156 := AG.mk Tryz.isAgg156
abbrev is156 := SZ.mk Tryz.sizeOf156
abbrev it156 := TI.mk Tryz.typeInfo156
abbrev iu157 := UT.mk Tryz.underlying157
abbrev ia157 := AG.mk Tryz.isAgg157
abbrev is157 := SZ.mk Tryz.sizeOf157
abbrev it157 := TI.mk Tryz.typeInfo157
abbrev iu158 := UT.mk Tryz.underlying158
abbrev ia158 := AG.mk Tryz.isAgg158
abbrev is158 := SZ.mk Tryz.sizeOf158
abbrev it158 := TI.mk Tryz.typeInfo158
abbrev iu159 := UT.mk Tryz.underlying159
abbrev ia159 := AG.mk Tryz.isAgg159
abbrev is159 := SZ.mk Tryz.sizeOf159
abbrev it159 := TI.mk Tryz.typeInfo159
abbrev iz159 := ZV.mk Tryz.zeroValue159
abbrev iu160 := UT.mk Tryz.underlying160
abbrev ia160 := AG.mk Tryz.isAgg160
abbrev is160 := SZ.mk Tryz.sizeOf160
abbrev it160 := TI.mk Tryz.typeInfo160
abbrev iu161 := UT.mk Tryz.underlying161
abbrev ia161 := AG.mk Tryz.isAgg161
abbrev is161 := SZ.mk Tryz.sizeOf161
abbrev it161 := TI.mk Tryz.typeInfo161
abbrev iu162 := UT.mk Tryz.underlying162
abbrev ia162 := AG.mk Tryz.isAgg162
abbrev is162 := SZ.mk Tryz.sizeOf162
abbrev it162 := TI.mk Tryz.typeInfo162
abbrev iu163 := UT.mk Tryz.underlying163
abbrev ia163 := AG.mk Tryz.isAgg163
abbrev is163 := SZ.mk Tryz.sizeOf163
abbrev it163 := TI.mk Tryz.typeInfo163
abbrev iu164 := UT.mk Tryz.underlying164
abbrev ia164 := AG.mk Tryz.isAgg164
abbrev is164 := SZ.mk Tryz.sizeOf164
abbrev it164 := TI.mk Tryz.typeInfo164
abbrev iu165 := UT.mk Tryz.underlying165
abbrev ia165 := AG.mk Tryz.isAgg165
abbrev is165 := SZ.mk Tryz.sizeOf165
abbrev it165 := TI.mk Tryz.typeInfo165
abbrev iu166 := UT.mk Tryz.underlying166
abbrev ia166 := AG.mk Tryz.isAgg166
abbrev is166 := SZ.mk Tryz.sizeOf166
abbrev it166 := TI.mk Tryz.typeInfo166
abbrev iu167 := UT.mk Tryz.underlying167
abbrev ia167 := AG.mk Tryz.isAgg167
abbrev is167 := SZ.mk Tryz.sizeOf167
abbrev it167 := TI.mk Tryz.typeInfo167
abbrev iz167 := ZV.mk Tryz.zeroValue167
abbrev iu168 := UT.mk Tryz.underlying168
abbrev ia168 := AG.mk Tryz.isAgg168
abbrev is168 := SZ.mk Tryz.sizeOf168
abbrev it168 := TI.mk Tryz.typeInfo168
abbrev iu169 := UT.mk Tryz.underlying169
abbrev ia169 := AG.mk Tryz.isAgg169
abbrev is169 := SZ.mk Tryz.sizeOf169
abbrev it169 := TI.mk Tryz.typeInfo169
abbrev iu170 := UT.mk Tryz.underlying170
abbrev ia170 := AG.mk Tryz.isAgg170
abbrev is170 := SZ.mk Tryz.sizeOf170
abbrev it170 := TI.mk Tryz.typeInfo170
abbrev iu171 := UT.mk Tryz.underlying171
abbrev ia171 := AG.mk Tryz.isAgg171
abbrev is171 := SZ.mk Tryz.sizeOf171
abbrev it171 := TI.mk Tryz.typeInfo171
abbrev iz171 := ZV.mk Tryz.zeroValue171
abbrev iu172 := UT.mk Tryz.underlying172
abbrev ia172 := AG.mk Tryz.isAgg172
abbrev is172 := SZ.mk Tryz.sizeOf172
abbrev it172 := TI.mk Tryz.typeInfo172
abbrev iu173 := UT.mk Tryz.underlying173
abbrev ia173 := AG.mk Tryz.isAgg173
abbrev is173 := SZ.mk Tryz.sizeOf173
abbrev it173 := TI.mk Tryz.typeInfo173
abbrev iu174 := UT.mk Tryz.underlying174
abbrev ia174 := AG.mk Tryz.isAgg174
abbrev is174 := SZ.mk Tryz.sizeOf174
abbrev it174 := TI.mk Tryz.typeInfo174
abbrev iu175 := UT.mk Tryz.underlying175
abbrev ia175 := AG.mk Tryz.isAgg175
abbrev is175 := SZ.mk Tryz.sizeOf175
abbrev it175 := TI.mk Tryz.typeInfo175
abbrev iu176 := UT.mk Tryz.underlying176
abbrev ia176 := AG.mk Tryz.isAgg176
abbrev is176 := SZ.mk Tryz.sizeOf176
abbrev it176 := TI.mk Tryz.typeInfo176
abbrev iu177 := UT.mk Tryz.underlying177
abbrev ia177 := AG.mk Tryz.isAgg177
abbrev is177 := SZ.mk Tryz.sizeOf177
abbrev it177 := TI.mk Tryz.typeInfo177
abbrev iu178 := UT.mk Tryz.underlying178
abbrev ia178 := AG.mk Tryz.isAgg178
abbrev is178 := SZ.mk Tryz.sizeOf178
abbrev it178 := TI.mk Tryz.typeInfo178
abbrev iu179 := UT.mk Tryz.underlying179
abbrev ia179 := AG.mk Tryz.isAgg179
abbrev is179 := SZ.mk Tryz.sizeOf179
abbrev it179 := TI.mk Tryz.typeInfo179
abbrev iu180 := UT.mk Tryz.underlying180
abbrev ia180 := AG.mk Tryz.isAgg180
abbrev is180 := SZ.mk Tryz.sizeOf180
abbrev it180 := TI.mk Tryz.typeInfo180
abbrev iu181 := UT.mk Tryz.underlying181
abbrev ia181 := AG.mk Tryz.isAgg181
abbrev is181 := SZ.mk Tryz.sizeOf181
abbrev it181 := TI.mk Tryz.typeInfo181
abbrev iu182 := UT.mk Tryz.underlying182
abbrev ia182 := AG.mk Tryz.isAgg182
abbrev is182 := SZ.mk Tryz.sizeOf182
abbrev it182 := TI.mk Tryz.typeInfo182
abbrev iu183 := UT.mk Tryz.underlying183
abbrev ia183 := AG.mk Tryz.isAgg183
abbrev is183 := SZ.mk Tryz.sizeOf183
abbrev it183 := TI.mk Tryz.typeInfo183
abbrev iu184 := UT.mk Tryz.underlying184
abbrev ia184 := AG.mk Tryz.isAgg184
abbrev is184 := SZ.mk Tryz.sizeOf184
abbrev it184 := TI.mk Tryz.typeInfo184
abbrev iz184 := ZV.mk Tryz.zeroValue184
abbrev iu185 := UT.mk Tryz.underlying185
abbrev ia185 := AG.mk Tryz.isAgg185
abbrev is185 := SZ.mk Tryz.sizeOf185
abbrev it185 := TI.mk Tryz.typeInfo185
abbrev iz185 := ZV.mk Tryz.zeroValue185
abbrev iu186 := UT.mk Tryz.underlying186
abbrev ia186 := AG.mk Tryz.isAgg186
abbrev is186 := SZ.mk Tryz.sizeOf186
abbrev it186 := TI.mk Tryz.typeInfo186
abbrev iu187 := UT.mk Tryz.underlying187
abbrev ia187 := AG.mk Tryz.isAgg187
abbrev is187 := SZ.mk Tryz.sizeOf187
abbrev it187 := TI.mk Tryz.typeInfo187
abbrev iu188 := UT.mk Tryz.underlying188
abbrev ia188 := AG.mk Tryz.isAgg188
abbrev is188 := SZ.mk Tryz.sizeOf188
abbrev it188 := TI.mk Tryz.typeInfo188
abbrev iz188 := ZV.mk Tryz.zeroValue188
abbrev iu189 := UT.mk Tryz.underlying189
abbrev ia189 := AG.mk Tryz.isAgg189
abbrev is189 := SZ.mk Tryz.sizeOf189
abbrev it189 := TI.mk Tryz.typeInfo189
abbrev iu190 := UT.mk Tryz.underlying190
abbrev ia190 := AG.mk Tryz.isAgg190
abbrev is190 := SZ.mk Tryz.sizeOf190
abbrev it190 := TI.mk Tryz.typeInfo190
abbrev iz190 := ZV.mk Tryz.zeroValue190
abbrev iu191 := UT.mk Tryz.underlying191
abbrev ia191 := AG.mk Tryz.isAgg191
abbrev is191 := SZ.mk Tryz.sizeOf191
abbrev it191 := TI.mk Tryz.typeInfo191
abbrev iu192 := UT.mk Tryz.underlying192
abbrev ia192 := AG.mk Tryz.isAgg192
abbrev is192 := SZ.mk Tryz.sizeOf192
abbrev it192 := TI.mk Tryz.typeInfo192
abbrev iu193 := UT.mk Tryz.underlying193
abbrev ia193 := AG.mk Tryz.isAgg193
abbrev is193 := SZ.mk Tryz.sizeOf193
abbrev it193 := TI.mk Tryz.typeInfo193
abbrev iu194 := UT.mk Tryz.underlying194
abbrev ia194 := AG.mk Tryz.isAgg194
abbrev is194 := SZ.mk Tryz.sizeOf194
abbrev it194 := TI.mk Tryz.typeInfo194
abbrev iz194 := ZV.mk Tryz.zeroValue194
abbrev iu195 := UT.mk Tryz.underlying195
abbrev ia195 := AG.mk Tryz.isAgg195
abbrev is195 := SZ.mk Tryz.sizeOf195
abbrev it195 := TI.mk Tryz.typeInfo195
abbrev iz195 := ZV.mk Tryz.zeroValue195
abbrev iu196 := UT.mk Tryz.underlying196
abbrev ia196 := AG.mk Tryz.isAgg196
abbrev is196 := SZ.mk Tryz.sizeOf196
abbrev it196 := TI.mk Tryz.typeInfo196
abbrev iz196 := ZV.mk Tryz.zeroValue196
abbrev iu197 := UT.mk Tryz.underlying197
abbrev ia197 := AG.mk Tryz.isAgg197
abbrev is197 := SZ.mk Tryz.sizeOf197
abbrev it197 := TI.mk Tryz.typeInfo197
abbrev iz197 := ZV.mk Tryz.zeroValue197
abbrev iu198 := UT.mk Tryz.underlying198
abbrev ia198 := AG.mk Tryz.isAgg198
abbrev is198 := SZ.mk Tryz.sizeOf198
abbrev it198 := TI.mk Tryz.typeInfo198
abbrev iz198 := ZV.mk Tryz.zeroValue198
abbrev iu199 := UT.mk Tryz.underlying199
abbrev ia199 := AG.mk Tryz.isAgg199
abbrev is199 := SZ.mk Tryz.sizeOf199
abbrev it199 := TI.mk Tryz.typeInfo199
abbrev iz199 := ZV.mk Tryz.zeroValue199
abbrev iu200 := UT.mk Tryz.underlying200
abbrev ia200 := AG.mk Tryz.isAgg200
abbrev is200 := SZ.mk Tryz.sizeOf200
abbrev it200 := TI.mk Tryz.typeInfo200
abbrev iz200 := ZV.mk Tryz.zeroValue200
abbrev iu201 := UT.mk Tryz.underlying201
abbrev ia201 := AG.mk Tryz.isAgg201
abbrev is201 := SZ.mk Tryz.sizeOf201
abbrev it201 := TI.mk Tryz.typeInfo201
abbrev iu202 := UT.mk Tryz.underlying202
abbrev ia202 := AG.mk Tryz.isAgg202
abbrev is202 := SZ.mk Tryz.sizeOf202
abbrev it202 := TI.mk Tryz.typeInfo202
abbrev iz202 := ZV.mk Tryz.zeroValue202
abbrev iu203 := UT.mk Tryz.underlying203
abbrev ia203 := AG.mk Tryz.isAgg203
abbrev is203 := SZ.mk Tryz.sizeOf203
abbrev it203 := TI.mk Tryz.typeInfo203
abbrev iz203 := ZV.mk Tryz.zeroValue203
abbrev iu204 := UT.mk Tryz.underlying204
abbrev ia204 := AG.mk Tryz.isAgg204
abbrev is204 := SZ.mk Tryz.sizeOf204
abbrev it204 := TI.mk Tryz.typeInfo204
abbrev iz204 := ZV.mk Tryz.zeroValue204
abbrev iu205 := UT.mk Tryz.underlying205
abbrev ia205 := AG.mk Tryz.isAgg205
abbrev is205 := SZ.mk Tryz.sizeOf205
abbrev it205 := TI.mk Tryz.typeInfo205
abbrev iz205 := ZV.mk Tryz.zeroValue205
abbrev iu206 := UT.mk Tryz.underlying206
abbrev ia206 := AG.mk Tryz.isAgg206
abbrev is206 := SZ.mk Tryz.sizeOf206
abbrev it206 := TI.mk Tryz.typeInfo206
abbrev iz206 := ZV.mk Tryz.zeroValue206
abbrev iu207 := UT.mk Tryz.underlying207
abbrev ia207 := AG.mk Tryz.isAgg207
abbrev is207 := SZ.mk Tryz.sizeOf207
abbrev it207 := TI.mk Tryz.typeInfo207
abbrev iz207 := ZV.mk Tryz.zeroValue207
abbrev if7_0 := FA.of' (i := 0) (off := 0) Tryz.underlying7 rfl rfl rfl Tryz.sizeOf2 Tryz.isAgg2 rfl
abbrev if7_1 := FA.of' (i := 1) (off := 1) Tryz.underlying7 rfl rfl rfl Tryz.sizeOf3 Tryz.isAgg3 rfl
abbrev if7_2 := FA.of' (i := 2) (off := 2) Tryz.underlying7 rfl rfl rfl Tryz.sizeOf4 Tryz.isAgg4 rfl
abbrev if7_3 := FA.of' (i := 3) (off := 3) Tryz.underlying7 rfl rfl rfl Tryz.sizeOf6 Tryz.isAgg6 rfl
abbrev if8_0 := FA.of' (i := 0) (off := 0) Tryz.underlying8 rfl rfl rfl Tryz.sizeOf2 Tryz.isAgg2 rfl
abbrev if8_1 := FA.of' (i := 1) (off := 1) Tryz.underlying8 rfl rfl rfl Tryz.sizeOf3 Tryz.isAgg3 rfl
abbrev if8_2 := FA.of' (i := 2) (off := 2) Tryz.underlying8 rfl rfl rfl Tryz.sizeOf4 Tryz.isAgg4 rfl
abbrev if8_3 := FA.of' (i := 3) (off := 3) Tryz.underlying8 rfl rfl rfl Tryz.sizeOf6 Tryz.isAgg6 rfl
abbrev if13_0 := FA.of' (i := 0) (off := 0) Tryz.underlying13 rfl rfl rfl Tryz.sizeOf9 Tryz.isAgg9 rfl
abbrev if13_1 := FA.of' (i := 1) (off := 1) Tryz.underlying13 rfl rfl rfl Tryz.sizeOf12 Tryz.isAgg12 rfl
abbrev if14_0 := FA.of' (i := 0) (off := 0) Tryz.underlying14 rfl rfl rfl Tryz.sizeOf9 Tryz.isAgg9 rfl
abbrev if14_1 := FA.of' (i := 1) (off := 1) Tryz.underlying14 rfl rfl rfl Tryz.sizeOf12 Tryz.isAgg12 rfl
abbrev if18_0 := FA.of' (i := 0) (off := 0) Tryz.underlying18 rfl rfl rfl Tryz.sizeOf17 Tryz.isAgg17 rfl
abbrev if19_0 := FA.of' (i := 0) (off := 0) Tryz.underlying19 rfl rfl rfl Tryz.sizeOf17 Tryz.isAgg17 rfl
abbrev if22_0 := FA.of' (i := 0) (off := 0) Tryz.underlying22 rfl rfl rfl Tryz.sizeOf3 Tryz.isAgg3 rfl
abbrev if22_1 := FA.of' (i := 1) (off := 1) Tryz.underlying22 rfl rfl rfl Tryz.sizeOf3 Tryz.isAgg3 rfl
abbrev if22_2 := FA.of' (i := 2) (off := 2) Tryz.underlying22 rfl rfl rfl Tryz.sizeOf3 Tryz.isAgg3 rfl
abbrev if23_0 := FA.of' (i := 0) (off := 0) Tryz.underlying23 rfl rfl rfl Tryz.sizeOf3 Tryz.isAgg3 rfl
abbrev if23_1 := FA.of' (i := 1) (off := 1) Tryz.underlying23 rfl rfl rfl Tryz.sizeOf3 Tryz.isAgg3 rfl
abbrev if23_2 := FA.of' (i := 2) (off := 2) Tryz.underlying23 rfl rfl rfl Tryz.sizeOf3 Tryz.isAgg3 rfl
abbrev if37_0 := FA.of' (i := 0) (off := 0) Tryz.underlying37 rfl rfl rfl Tryz.sizeOf5 Tryz.isAgg5 rfl
abbrev if37_1 := FA.of' (i := 1) (off := 1) Tryz.underlying37 rfl rfl rfl Tryz.sizeOf3 Tryz.isAgg3 rfl
abbrev if37_2 := FA.of' (i := 2) (off := 2) Tryz.underlying37 rfl rfl rfl Tryz.sizeOf34 Tryz.isAgg34 rfl
abbrev if37_3 := FA.of' (i := 3) (off := 3) Tryz.underlying37 rfl rfl rfl Tryz.sizeOf35 Tryz.isAgg35 rfl
abbrev if37_4 := FA.of' (i := 4) (off := 4) Tryz.underlying37 rfl rfl rfl Tryz.sizeOf5 Tryz.isAgg5 rfl
abbrev if37_5 := FA.of' (i := 5) (off := 5) Tryz.underlying37 rfl rfl rfl Tryz.sizeOf36 Tryz.isAgg36 rfl
abbrev if38_0 := FA.of' (i := 0) (off := 0) Tryz.underlying38 rfl rfl rfl Tryz.sizeOf5 Tryz.isAgg5 rfl
abbrev if38_1 := FA.of' (i := 1) (off := 1) Tryz.underlying38 rfl rfl rfl Tryz.sizeOf3 Tryz.isAgg3 rfl
abbrev if38_2 := FA.of' (i := 2) (off := 2) Tryz.underlying38 rfl rfl rfl Tryz.sizeOf34 Tryz.isAgg34 rfl
abbrev if38_3 := FA.of' (i := 3) (off := 3) Tryz.underlying38 rfl rfl rfl Tryz.sizeOf35 Tryz.isAgg35 rfl
abbrev if38_4 := FA.of' (i := 4) (off := 4) Tryz.underlying38 rfl rfl rfl Tryz.sizeOf5 Tryz.isAgg5 rfl
abbrev if38_5 := FA.of' (i := 5) (off := 5) Tryz.underlying38 rfl rfl rfl Tryz.sizeOf36 Tryz.isAgg36 rfl
abbrev if45_0 := FA.of' (i := 0) (off := 0) Tryz.underlying45 rfl rfl rfl Tryz.sizeOf3 Tryz.isAgg3 rfl
abbrev if45_1 := FA.of' (i := 1) (off := 1) Tryz.underlying45 rfl rfl rfl Tryz.sizeOf29 Tryz.isAgg29 rfl
abbrev if45_2 := FA.of' (i := 2) (off := 2) Tryz.underlying45 rfl rfl rfl Tryz.sizeOf34 Tryz.isAgg34 rfl
abbrev if45_3 := FA.of' (i := 3) (off := 3) Tryz.underlying45 rfl rfl rfl Tryz.sizeOf35 Tryz.isAgg35 rfl
abbrev if46_0 := FA.of' (i := 0) (off := 0) Tryz.underlying46 rfl rfl rfl Tryz.sizeOf3 Tryz.isAgg3 rfl
abbrev if46_1 := FA.of' (i := 1) (off := 1) Tryz.underlying46 rfl rfl rfl Tryz.sizeOf29 Tryz.isAgg29 rfl
abbrev if46_2 := FA.of' (i := 2) (off := 2) Tryz.underlying46 rfl rfl rfl Tryz.sizeOf34 Tryz.isAgg34 rfl
abbrev if46_3 := FA.of' (i := 3) (off := 3) Tryz.underlying46 rfl rfl rfl Tryz.sizeOf35 Tryz.isAgg35 rfl
abbrev if57_0 := FA.of' (i := 0) (off := 0) Tryz.underlying57 rfl rfl rfl Tryz.sizeOf3 Tryz.isAgg3 rfl
abbrev if57_1 := FA.of' (i := 1) (off := 1) Tryz.underlying57 rfl rfl rfl Tryz.sizeOf56 Tryz.isAgg56 rfl
abbrev if57_2 := FA.of' (i := 2) (off := 2) Tryz.underlying57 rfl rfl rfl Tryz.sizeOf56 Tryz.isAgg56 rfl
abbrev if57_3 := FA.of' (i := 3) (off := 3) Tryz.underlying57 rfl rfl rfl Tryz.sizeOf55 Tryz.isAgg55 rfl
abbrev if57_4 := FA.of' (i := 4) (off := 4) Tryz.underlying57 rfl rfl rfl Tryz.sizeOf3 Tryz.isAgg3 rfl
abbrev if57_5 := FA.of' (i := 5) (off := 5) Tryz.underlying57 rfl rfl rfl Tryz.sizeOf3 Tryz.isAgg3 rfl
abbrev if58_0 := FA.of' (i := 0) (off := 0) Tryz.underlying58 rfl rfl rfl Tryz.sizeOf3 Tryz.isAgg3 rfl
abbrev if58_1 := FA.of' (i := 1) (off := 1) Tryz.underlying58 rfl rfl rfl Tryz.sizeOf56 Tryz.isAgg56 rfl
abbrev if58_2 := FA.of' (i := 2) (off := 2) Tryz.underlying58 rfl rfl rfl Tryz.sizeOf56 Tryz.isAgg56 rfl
abbrev if58_3 := FA.of' (i := 3) (off := 3) Tryz.underlying58 rfl rfl rfl Tryz.sizeOf55 Tryz.isAgg55 rfl
abbrev if58_4 := FA.of' (i := 4) (off := 4) Tryz.underlying58 rfl rfl rfl Tryz.sizeOf3 Tryz.isAgg3 rfl
abbrev if58_5 := FA.of' (i := 5) (off := 5) Tryz.underlying58 rfl rfl rfl Tryz.sizeOf3 Tryz.isAgg3 rfl
abbrev if78_0 := FA.of' (i := 0) (off := 0) Tryz.underlying78 rfl rfl rfl Tryz.sizeOf35 Tryz.isAgg35 rfl
abbrev if78_1 := FA.of' (i := 1) (off := 1) Tryz.underlying78 rfl rfl rfl Tryz.sizeOf5 Tryz.isAgg5 rfl
abbrev if78_2 := FA.of' (i := 2) (off := 2) Tryz.underlying78 rfl rfl rfl Tryz.sizeOf4 Tryz.isAgg4 rfl
abbrev if78_3 := FA.of' (i := 3) (off := 3) Tryz.underlying78 rfl rfl rfl Tryz.sizeOf36 Tryz.isAgg36 rfl
abbrev if79_0 := FA.of' (i := 0) (off := 0) Tryz.underlying79 rfl rfl rfl Tryz.sizeOf35 Tryz.isAgg35 rfl
abbrev if79_1 := FA.of' (i := 1) (off := 1) Tryz.underlying79 rfl rfl rfl Tryz.sizeOf5 Tryz.isAgg5 rfl
abbrev if79_2 := FA.of' (i := 2) (off := 2) Tryz.underlying79 rfl rfl rfl Tryz.sizeOf4 Tryz.isAgg4 rfl
abbrev if79_3 := FA.of' (i := 3) (off := 3) Tryz.underlying79 rfl rfl rfl Tryz.sizeOf36 Tryz.isAgg36 rfl
abbrev if89_0 := FA.of' (i := 0) (off := 0) Tryz.underlying89 rfl rfl rfl Tryz.sizeOf5 Tryz.isAgg5 rfl
abbrev if89_1 := FA.of' (i := 1) (off := 1) Tryz.underlying89 rfl rfl rfl Tryz.sizeOf35 Tryz.isAgg35 rfl
abbrev if89_2 := FA.of' (i := 2) (off := 2) Tryz.underlying89 rfl rfl rfl Tryz.sizeOf5 Tryz.isAgg5 rfl
abbrev if89_3 := FA.of' (i := 3) (off := 3) Tryz.underlying89 rfl rfl rfl Tryz.sizeOf36 Tryz.isAgg36 rfl
abbrev if90_0 := FA.of' (i := 0) (off := 0) Tryz.underlying90 rfl rfl rfl Tryz.sizeOf5 Tryz.isAgg5 rfl
abbrev if90_1 := FA.of' (i := 1) (off := 1) Tryz.underlying90 rfl rfl rfl Tryz.sizeOf35 Tryz.isAgg35 rfl
abbrev if90_2 := FA.of' (i := 2) (off := 2) Tryz.underlying90 rfl rfl rfl Tryz.sizeOf5 Tryz.isAgg5 rfl
abbrev if90_3 := FA.of' (i := 3) (off := 3) Tryz.underlying90 rfl rfl rfl Tryz.sizeOf36 Tryz.isAgg36 rfl
abbrev if95_0 := FA.of' (i := 0) (off := 0) Tryz.underlying95 rfl rfl rfl Tryz.sizeOf32 Tryz.isAgg32 rfl
abbrev if95_1 := FA.of' (i := 1) (off := 1) Tryz.underlying95 rfl rfl rfl Tryz.sizeOf23 Tryz.isAgg23 rfl
abbrev if95_2 := FA.of' (i := 2) (off := 4) Tryz.underlying95 rfl rfl rfl Tryz.sizeOf35 Tryz.isAgg35 rfl
abbrev if95_3 := FA.of' (i := 3) (off := 5) Tryz.underlying95 rfl rfl rfl Tryz.sizeOf34 Tryz.isAgg34 rfl
abbrev if95_4 := FA.of' (i := 4) (off := 6) Tryz.underlying95 rfl rfl rfl Tryz.sizeOf3 Tryz.isAgg3 rfl
abbrev if95_5 := FA.of' (i := 5) (off := 7) Tryz.underlying95 rfl rfl rfl Tryz.sizeOf4 Tryz.isAgg4 rfl
abbrev if96_0 := FA.of' (i := 0) (off := 0) Tryz.underlying96 rfl rfl rfl Tryz.sizeOf32 Tryz.isAgg32 rfl
abbrev if96_1 := FA.of' (i := 1) (off := 1) Tryz.underlying96 rfl rfl rfl Tryz.sizeOf23 Tryz.isAgg23 rfl
abbrev if96_2 := FA.of' (i := 2) (off := 4) Tryz.underlying96 rfl rfl rfl Tryz.sizeOf35 Tryz.isAgg35 rfl
abbrev if96_3 := FA.of' (i := 3) (off := 5) Tryz.underlying96 rfl rfl rfl Tryz.sizeOf34 Tryz.isAgg34 rfl
abbrev if96_4 := FA.of' (i := 4) (off := 6) Tryz.underlying96 rfl rfl rfl Tryz.sizeOf3 Tryz.isAgg3 rfl
abbrev if96_5 := FA.of' (i := 5) (off := 7) Tryz.underlying96 rfl rfl rfl Tryz.sizeOf4 Tryz.isAgg4 rfl
abbrev if99_0 := FA.of' (i := 0) (off := 0) Tryz.underlying99 rfl rfl rfl Tryz.sizeOf3 Tryz.isAgg3 rfl
abbrev if99_1 := FA.of' (i := 1) (off := 1) Tryz.underlying99 rfl rfl rfl Tryz.sizeOf35 Tryz.isAgg35 rfl
abbrev if100_0 := FA.of' (i := 0) (off := 0) Tryz.underlying100 rfl rfl rfl Tryz.sizeOf3 Tryz.isAgg3 rfl
abbrev if100_1 := FA.of' (i := 1) (off := 1) Tryz.underlying100 rfl rfl rfl Tryz.sizeOf35 Tryz.isAgg35 rfl
abbrev if104_0 := FA.of' (i := 0) (off := 0) Tryz.underlying104 rfl rfl rfl Tryz.sizeOf3 Tryz.isAgg3 rfl
abbrev if104_1 := FA.of' (i := 1) (off := 1) Tryz.underlying104 rfl rfl rfl Tryz.sizeOf3 Tryz.isAgg3 rfl
abbrev if104_2 := FA.of' (i := 2) (off := 2) Tryz.underlying104 rfl rfl rfl Tryz.sizeOf102 Tryz.isAgg102 rfl
abbrev if104_3 := FA.of' (i := 3) (off := 3) Tryz.underlying104 rfl rfl rfl Tryz.sizeOf103 Tryz.isAgg103 rfl
abbrev if105_0 := FA.of' (i := 0) (off := 0) Tryz.underlying105 rfl rfl rfl Tryz.sizeOf3 Tryz.isAgg3 rfl
abbrev if105_1 := FA.of' (i := 1) (off := 1) Tryz.underlying105 rfl rfl rfl Tryz.sizeOf3 Tryz.isAgg3 rfl
abbrev if105_2 := FA.of' (i := 2) (off := 2) Tryz.underlying105 rfl rfl rfl Tryz.sizeOf102 Tryz.isAgg102 rfl
abbrev if105_3 := FA.of' (i := 3) (off := 3) Tryz.underlying105 rfl rfl rfl Tryz.sizeOf103 Tryz.isAgg103 rfl
abbrev if113_0 := FA.of' (i := 0) (off := 0) Tryz.underlying113 rfl rfl rfl Tryz.sizeOf23 Tryz.isAgg23 rfl
abbrev if113_1 := FA.of' (i := 1) (off := 3) Tryz.underlying113 rfl rfl rfl Tryz.sizeOf3 Tryz.isAgg3 rfl
abbrev if113_2 := FA.of' (i := 2) (off := 4) Tryz.underlying113 rfl rfl rfl Tryz.sizeOf34 Tryz.isAgg34 rfl
abbrev if113_3 := FA.of' (i := 3) (off := 5) Tryz.underlying113 rfl rfl rfl Tryz.sizeOf111 Tryz.isAgg111 rfl
abbrev if114_0 := FA.of' (i := 0) (off := 0) Tryz.underlying114 rfl rfl rfl Tryz.sizeOf23 Tryz.isAgg23 rfl
abbrev if114_1 := FA.of' (i := 1) (off := 3) Tryz.underlying114 rfl rfl rfl Tryz.sizeOf3 Tryz.isAgg3 rfl
abbrev if114_2 := FA.of' (i := 2) (off := 4) Tryz.underlying114 rfl rfl rfl Tryz.sizeOf34 Tryz.isAgg34 rfl
abbrev if114_3 := FA.of' (i := 3) (off := 5) Tryz.underlying114 rfl rfl rfl Tryz.sizeOf111 Tryz.isAgg111 rfl
abbrev if120_0 := FA.of' (i := 0) (off := 0) Tryz.underlying120 rfl rfl rfl Tryz.sizeOf3 Tryz.isAgg3 rfl
abbrev if120_1 := FA.of' (i := 1) (off := 1) Tryz.underlying120 rfl rfl rfl Tryz.sizeOf35 Tryz.isAgg35 rfl
abbrev if120_2 := FA.of' (i := 2) (off := 2) Tryz.underlying120 rfl rfl rfl Tryz.sizeOf118 Tryz.isAgg118 rfl
abbrev if120_3 := FA.of' (i := 3) (off := 3) Tryz.underlying120 rfl rfl rfl Tryz.sizeOf119 Tryz.isAgg119 rfl
abbrev if120_4 := FA.of' (i := 4) (off := 4) Tryz.underlying120 rfl rfl rfl Tryz.sizeOf3 Tryz.isAgg3 rfl
abbrev if120_5 := FA.of' (i := 5) (off := 5) Tryz.underlying120 rfl rfl rfl Tryz.sizeOf3 Tryz.isAgg3 rfl
abbrev if121_0 := FA.of' (i := 0) (off := 0) Tryz.underlying121 rfl rfl rfl Tryz.sizeOf3 Tryz.isAgg3 rfl
abbrev if121_1 := FA.of' (i := 1) (off := 1) Tryz.underlying121 rfl rfl rfl Tryz.sizeOf35 Tryz.isAgg35 rfl
abbrev if121_2 := FA.of' (i := 2) (off := 2) Tryz.underlying121 rfl rfl rfl Tryz.sizeOf118 Tryz.isAgg118 rfl
abbrev if121_3 := FA.of' (i := 3) (off := 3) Tryz.underlying121 rfl rfl rfl Tryz.sizeOf119 Tryz.isAgg119 rfl
abbrev if121_4 := FA.of' (i := 4) (off := 4) Tryz.underlying121 rfl rfl rfl Tryz.sizeOf3 Tryz.isAgg3 rfl
abbrev if121_5 := FA.of' (i := 5) (off := 5) Tryz.underlying121 rfl rfl rfl Tryz.sizeOf3 Tryz.isAgg3 rfl
abbrev if133_0 := FA.of' (i := 0) (off := 0) Tryz.underlying133 rfl rfl rfl Tryz.sizeOf28 Tryz.isAgg28 rfl
abbrev if133_1 := FA.of' (i := 1) (off := 1) Tryz.underlying133 rfl rfl rfl Tryz.sizeOf23 Tryz.isAgg23 rfl
abbrev if133_2 := FA.of' (i := 2) (off := 4) Tryz.underlying133 rfl rfl rfl Tryz.sizeOf35 Tryz.isAgg35 rfl
abbrev if133_3 := FA.of' (i := 3) (off := 5) Tryz.underlying133 rfl rfl rfl Tryz.sizeOf34 Tryz.isAgg34 rfl
abbrev if133_4 := FA.of' (i := 4) (off := 6) Tryz.underlying133 rfl rfl rfl Tryz.sizeOf3 Tryz.isAgg3 rfl
abbrev if133_5 := FA.of' (i := 5) (off := 7) Tryz.underlying133 rfl rfl rfl Tryz.sizeOf4 Tryz.isAgg4 rfl
abbrev if134_0 := FA.of' (i := 0) (off := 0) Tryz.underlying134 rfl rfl rfl Tryz.sizeOf28 Tryz.isAgg28 rfl
abbrev if134_1 := FA.of' (i := 1) (off := 1) Tryz.underlying134 rfl rfl rfl Tryz.sizeOf23 Tryz.isAgg23 rfl
abbrev if134_2 := FA.of' (i := 2) (off := 4) Tryz.underlying134 rfl rfl rfl Tryz.sizeOf35 Tryz.isAgg35 rfl
abbrev if134_3 := FA.of' (i := 3) (off := 5) Tryz.underlying134 rfl rfl rfl Tryz.sizeOf34 Tryz.isAgg34 rfl
abbrev if134_4 := FA.of' (i := 4) (off := 6) Tryz.underlying134 rfl rfl rfl Tryz.sizeOf3 Tryz.isAgg3 rfl
abbrev if134_5 := FA.of' (i := 5) (off := 7) Tryz.underlying134 rfl rfl rfl Tryz.sizeOf4 Tryz.isAgg4 rfl
abbrev if194_0 := FA.of' (i := 0) (off := 0) Tryz.underlying194 rfl rfl rfl Tryz.sizeOf17 Tryz.isAgg17 rfl
abbrev if194_1 := FA.of' (i := 1) (off := 1) Tryz.underlying194 rfl rfl rfl Tryz.sizeOf17 Tryz.isAgg17 rfl
abbrev if194_2 := FA.of' (i := 2) (off := 2) Tryz.underlying194 rfl rfl rfl Tryz.sizeOf17 Tryz.isAgg17 rfl
abbrev if194_3 := FA.of' (i := 3) (off := 3) Tryz.underlying194 rfl rfl rfl Tryz.sizeOf9 Tryz.isAgg9 rfl
abbrev if195_0 := FA.of' (i := 0) (off := 0) Tryz.underlying195 rfl rfl rfl Tryz.sizeOf17 Tryz.isAgg17 rfl
abbrev if195_1 := FA.of' (i := 1) (off := 1) Tryz.underlying195 rfl rfl rfl Tryz.sizeOf17 Tryz.isAgg17 rfl
abbrev if195_2 := FA.of' (i := 2) (off := 2) Tryz.underlying195 rfl rfl rfl Tryz.sizeOf17 Tryz.isAgg17 rfl
abbrev if195_3 := FA.of' (i := 3) (off := 3) Tryz.underlying195 rfl rfl rfl Tryz.sizeOf9 Tryz.isAgg9 rfl
abbrev if205_0 := FA.of' (i := 0) (off := 0) Tryz.underlying205 rfl rfl rfl Tryz.sizeOf12 Tryz.isAgg12 rfl
abbrev if205_1 := FA.of' (i := 1) (off := 1) Tryz.underlying205 rfl rfl rfl Tryz.sizeOf12 Tryz.isAgg12 rfl
abbrev if205_2 := FA.of' (i := 2) (off := 2) Tryz.underlying205 rfl rfl rfl Tryz.sizeOf111 Tryz.isAgg111 rfl
abbrev if205_3 := FA.of' (i := 3) (off := 3) Tryz.underlying205 rfl rfl rfl Tryz.sizeOf199 Tryz.isAgg199 rfl
abbrev if205_4 := FA.of' (i := 4) (off := 4) Tryz.underlying205 rfl rfl rfl Tryz.sizeOf5 Tryz.isAgg5 rfl
abbrev if205_5 := FA.of' (i := 5) (off := 5) Tryz.underlying205 rfl rfl rfl Tryz.sizeOf5 Tryz.isAgg5 rfl
abbrev if205_6 := FA.of' (i := 6) (off := 6) Tryz.underlying205 rfl rfl rfl Tryz.sizeOf200 Tryz.isAgg200 rfl
abbrev if205_7 := FA.of' (i := 7) (off := 7) Tryz.underlying205 rfl rfl rfl Tryz.sizeOf201 Tryz.isAgg201 rfl
abbrev if205_8 := FA.of' (i := 8) (off := 8) Tryz.underlying205 rfl rfl rfl Tryz.sizeOf202 Tryz.isAgg202 rfl
abbrev if205_9 := FA.of' (i := 9) (off := 9) Tryz.underlying205 rfl rfl rfl Tryz.sizeOf203 Tryz.isAgg203 rfl
abbrev if205_10 := FA.of' (i := 10) (off := 10) Tryz.underlying205 rfl rfl rfl Tryz.sizeOf204 Tryz.isAgg204 rfl
abbrev if206_0 := FA.of' (i := 0) (off := 0) Tryz.underlying206 rfl rfl rfl Tryz.sizeOf12 Tryz.isAgg12 rfl
abbrev if206_1 := FA.of' (i := 1) (off := 1) Tryz.underlying206 rfl rfl rfl Tryz.sizeOf12 Tryz.isAgg12 rfl
abbrev if206_2 := FA.of' (i := 2) (off := 2) Tryz.underlying206 rfl rfl rfl Tryz.sizeOf111 Tryz.isAgg111 rfl
abbrev if206_3 := FA.of' (i := 3) (off := 3) Tryz.underlying206 rfl rfl rfl Tryz.sizeOf199 Tryz.isAgg199 rfl
abbrev if206_4 := FA.of' (i := 4) (off := 4) Tryz.underlying206 rfl rfl rfl Tryz.sizeOf5 Tryz.isAgg5 rfl
abbrev if206_5 := FA.of' (i := 5) (off := 5) Tryz.underlying206 rfl rfl rfl Tryz.sizeOf5 Tryz.isAgg5 rfl
abbrev if206_6 := FA.of' (i := 6) (off := 6) Tryz.underlying206 rfl rfl rfl Tryz.sizeOf200 Tryz.isAgg200 rfl
abbrev if206_7 := FA.of' (i := 7) (off := 7) Tryz.underlying206 rfl rfl rfl Tryz.sizeOf201 Tryz.isAgg201 rfl
abbrev if206_8 := FA.of' (i := 8) (off := 8) Tryz.underlying206 rfl rfl rfl Tryz.sizeOf202 Tryz.isAgg202 rfl
abbrev if206_9 := FA.of' (i := 9) (off := 9) Tryz.underlying206 rfl rfl rfl Tryz.sizeOf203 Tryz.isAgg203 rfl
abbrev if206_10 := FA.of' (i := 10) (off := 10) Tryz.underlying206 rfl rfl rfl Tryz.sizeOf204 Tryz.isAgg204 rfl
abbrev ib7 := BT.mk Tryz.zeroValue7 (pl := [(0, 1), (1, 1), (2, 1), (3, 1)]) ⟨_, Tryz.underlying7, ⟨⟨rfl, Tryz.sizeOf2⟩, ⟨⟨rfl, Tryz.sizeOf3⟩, ⟨⟨rfl, Tryz.sizeOf4⟩, ⟨⟨rfl, Tryz.sizeOf6⟩, trivial⟩⟩⟩⟩⟩
abbrev ib8 := BT.mk Tryz.zeroValue8 (pl := [(0, 1), (1, 1), (2, 1), (3, 1)]) ⟨_, Tryz.underlying8, ⟨⟨rfl, Tryz.sizeOf2⟩, ⟨⟨rfl, Tryz.sizeOf3⟩, ⟨⟨rfl, Tryz.sizeOf4⟩, ⟨⟨rfl, Tryz.sizeOf6⟩, trivial⟩⟩⟩⟩⟩
abbrev ib13 := BT.mk Tryz.zeroValue13 (pl := [(0, 1), (1, 1)]) ⟨_, Tryz.underlying13, ⟨⟨rfl, Tryz.sizeOf9⟩, ⟨⟨rfl, Tryz.sizeOf12⟩, trivial⟩⟩⟩
abbrev ib14 := BT.mk Tryz.zeroValue14 (pl := [(0, 1), (1, 1)]) ⟨_, Tryz.underlying14, ⟨⟨rfl, Tryz.sizeOf9⟩, ⟨⟨rfl, Tryz.sizeOf12⟩, trivial⟩⟩⟩
abbrev ib18 := BT.mk Tryz.zeroValue18 (pl := [(0, 1)]) ⟨_, Tryz.underlying18, ⟨⟨rfl, Tryz.sizeOf17⟩, trivial⟩⟩
abbrev ib19 := BT.mk Tryz.zeroValue19 (pl := [(0, 1)]) ⟨_, Tryz.underlying19, ⟨⟨rfl, Tryz.sizeOf17⟩, trivial⟩⟩
abbrev ib22 := BT.mk Tryz.zeroValue22 (pl := [(0, 1), (1, 1), (2, 1)]) ⟨_, Tryz.underlying22, ⟨⟨rfl, Tryz.sizeOf3⟩, ⟨⟨rfl, Tryz.sizeOf3⟩, ⟨⟨rfl, Tryz.sizeOf3⟩, trivial⟩⟩⟩⟩
abbrev ib23 := BT.mk Tryz.zeroValue23 (pl := [(0, 1), (1, 1), (2, 1)]) ⟨_, Tryz.underlying23, ⟨⟨rfl, Tryz.sizeOf3⟩, ⟨⟨rfl, Tryz.sizeOf3⟩, ⟨⟨rfl, Tryz.sizeOf3⟩, trivial⟩⟩⟩⟩
abbrev ib37 := BT.mk Tryz.zeroValue37 (pl := [(0, 1), (1, 1), (2, 1), (3, 1), (4, 1), (5, 1)]) ⟨_, Tryz.underlying37, ⟨⟨rfl, Tryz.sizeOf5⟩, ⟨⟨rfl, Tryz.sizeOf3⟩, ⟨⟨rfl, Tryz.sizeOf34⟩, ⟨⟨rfl, Tryz.sizeOf35⟩, ⟨⟨rfl, Tryz.sizeOf5⟩, ⟨⟨rfl, Tryz.sizeOf36⟩, trivial⟩⟩⟩⟩⟩⟩⟩
abbrev ib38 := BT.mk Tryz.zeroValue38 (pl := [(0, 1), (1, 1), (2, 1), (3, 1), (4, 1), (5, 1)]) ⟨_, Tryz.underlying38, ⟨⟨rfl, Tryz.sizeOf5⟩, ⟨⟨rfl, Tryz.sizeOf3⟩, ⟨⟨rfl, Tryz.sizeOf34⟩, ⟨⟨rfl, Tryz.sizeOf35⟩, ⟨⟨rfl, Tryz.sizeOf5⟩, ⟨⟨rfl, Tryz.sizeOf36⟩, trivial⟩⟩⟩⟩⟩⟩⟩
abbrev ib45 := BT.mk Tryz.zeroValue45 (pl := [(0, 1), (1, 1), (2, 1), (3, 1)]) ⟨_, Tryz.underlying45, ⟨⟨rfl, Tryz.sizeOf3⟩, ⟨⟨rfl, Tryz.sizeOf29⟩, ⟨⟨rfl, Tryz.sizeOf34⟩, ⟨⟨rfl, Tryz.sizeOf35⟩, trivial⟩⟩⟩⟩⟩
abbrev ib46 := BT.mk Tryz.zeroValue46 (pl := [(0, 1), (1, 1), (2, 1), (3, 1)]) ⟨_, Tryz.underlying46, ⟨⟨rfl, Tryz.sizeOf3⟩, ⟨⟨rfl, Tryz.sizeOf29⟩, ⟨⟨rfl, Tryz.sizeOf34⟩, ⟨⟨rfl, Tryz.sizeOf35⟩, trivial⟩⟩⟩⟩⟩
abbrev ib57 := BT.mk Tryz.zeroValue57 (pl := [(0, 1), (1, 1), (2, 1), (3, 1), (4, 1), (5, 1)]) ⟨_, Tryz.underlying57, ⟨⟨rfl, Tryz.sizeOf3⟩, ⟨⟨rfl, Tryz.sizeOf56⟩, ⟨⟨rfl, Tryz.sizeOf56⟩, ⟨⟨rfl, Tryz.sizeOf55⟩, ⟨⟨rfl, Tryz.sizeOf3⟩, ⟨⟨rfl, Tryz.sizeOf3⟩, trivial⟩⟩⟩⟩⟩⟩⟩
abbrev ib58 := BT.mk Tryz.zeroValue58 (pl := [(0, 1), (1, 1), (2, 1), (3, 1), (4, 1), (5, 1)]) ⟨_, Tryz.underlying58, ⟨⟨rfl, Tryz.sizeOf3⟩, ⟨⟨rfl, Tryz.sizeOf56⟩, ⟨⟨rfl, Tryz.sizeOf56⟩, ⟨⟨rfl, Tryz.sizeOf55⟩, ⟨⟨rfl, Tryz.sizeOf3⟩, ⟨⟨rfl, Tryz.sizeOf3⟩, trivial⟩⟩⟩⟩⟩⟩⟩
abbrev ib78 := BT.mk Tryz.zeroValue78 (pl := [(0, 1), (1, 1), (2, 1), (3, 1)]) ⟨_, Tryz.underlying78, ⟨⟨rfl, Tryz.sizeOf35⟩, ⟨⟨rfl, Tryz.sizeOf5⟩, ⟨⟨rfl, Tryz.sizeOf4⟩, ⟨⟨rfl, Tryz.sizeOf36⟩, trivial⟩⟩⟩⟩⟩
abbrev ib79 := BT.mk Tryz.zeroValue79 (pl := [(0, 1), (1, 1), (2, 1), (3, 1)]) ⟨_, Tryz.underlying79, ⟨⟨rfl, Tryz.sizeOf35⟩, ⟨⟨rfl, Tryz.sizeOf5⟩, ⟨⟨rfl, Tryz.sizeOf4⟩, ⟨⟨rfl, Tryz.sizeOf36⟩, trivial⟩⟩⟩⟩⟩
abbrev ib89 := BT.mk Tryz.zeroValue89 (pl := [(0, 1), (1, 1), (2, 1), (3, 1)]) ⟨_, Tryz.underlying89, ⟨⟨rfl, Tryz.sizeOf5⟩, ⟨⟨rfl, Tryz.sizeOf35⟩, ⟨⟨rfl, Tryz.sizeOf5⟩, ⟨⟨rfl, Tryz.sizeOf36⟩, trivial⟩⟩⟩⟩⟩
abbrev ib90 := BT.mk Tryz.zeroValue90 (pl := [(0, 1), (1, 1), (2, 1), (3, 1)]) ⟨_, Tryz.underlying90, ⟨⟨rfl, Tryz.sizeOf5⟩, ⟨⟨rfl, Tryz.sizeOf35⟩, ⟨⟨rfl, Tryz.sizeOf5⟩, ⟨⟨rfl, Tryz.sizeOf36⟩, trivial⟩⟩⟩⟩⟩
abbrev ib95 := BT.mk Tryz.zeroValue95 (pl := [(0, 1), (1, 3), (4, 1), (5, 1), (6, 1), (7, 1)]) ⟨_, Tryz.underlying95, ⟨⟨rfl, Tryz.sizeOf32⟩, ⟨⟨rfl, Tryz.sizeOf23⟩, ⟨⟨rfl, Tryz.sizeOf35⟩, ⟨⟨rfl, Tryz.sizeOf34⟩, ⟨⟨rfl, Tryz.sizeOf3⟩, ⟨⟨rfl, Tryz.sizeOf4⟩, trivial⟩⟩⟩⟩⟩⟩⟩
abbrev ib96 := BT.mk Tryz.zeroValue96 (pl := [(0, 1), (1, 3), (4, 1), (5, 1), (6, 1), (7, 1)]) ⟨_, Tryz.underlying96, ⟨⟨rfl, Tryz.sizeOf32⟩, ⟨⟨rfl, Tryz.sizeOf23⟩, ⟨⟨rfl, Tryz.sizeOf35⟩, ⟨⟨rfl, Tryz.sizeOf34⟩, ⟨⟨rfl, Tryz.sizeOf3⟩, ⟨⟨rfl, Tryz.sizeOf4⟩, trivial⟩⟩⟩⟩⟩⟩⟩
abbrev ib99 := BT.mk Tryz.zeroValue99 (pl := [(0, 1), (1, 1)]) ⟨_, Tryz.underlying99, ⟨⟨rfl, Tryz.sizeOf3⟩, ⟨⟨rfl, Tryz.sizeOf35⟩, trivial⟩⟩⟩
abbrev ib100 := BT.mk Tryz.zeroValue100 (pl := [(0, 1), (1, 1)]) ⟨_, Tryz.underlying100, ⟨⟨rfl, Tryz.sizeOf3⟩, ⟨⟨rfl, Tryz.sizeOf35⟩, trivial⟩⟩⟩
abbrev ib104 := BT.mk Tryz.zeroValue104 (pl := [(0, 1), (1, 1), (2, 1), (3, 1)]) ⟨_, Tryz.underlying104, ⟨⟨rfl, Tryz.sizeOf3⟩, ⟨⟨rfl, Tryz.sizeOf3⟩, ⟨⟨rfl, Tryz.sizeOf102⟩, ⟨⟨rfl, Tryz.sizeOf103⟩, trivial⟩⟩⟩⟩⟩
abbrev ib105 := BT.mk Tryz.zeroValue105 (pl := [(0, 1), (1, 1), (2, 1), (3, 1)]) ⟨_, Tryz.underlying105, ⟨⟨rfl, Tryz.sizeOf3⟩, ⟨⟨rfl, Tryz.sizeOf3⟩, ⟨⟨rfl, Tryz.sizeOf102⟩, ⟨⟨rfl, Tryz.sizeOf103⟩, trivial⟩⟩⟩⟩⟩
abbrev ib113 := BT.mk Tryz.zeroValue113 (pl := [(0, 3), (3, 1), (4, 1), (5, 1)]) ⟨_, Tryz.underlying113, ⟨⟨rfl, Tryz.sizeOf23⟩, ⟨⟨rfl, Tryz.sizeOf3⟩, ⟨⟨rfl, Tryz.sizeOf34⟩, ⟨⟨rfl, Tryz.sizeOf111⟩, trivial⟩⟩⟩⟩⟩
abbrev ib114 := BT.mk Tryz.zeroValue114 (pl := [(0, 3), (3, 1), (4, 1), (5, 1)]) ⟨_, Tryz.underlying114, ⟨⟨rfl, Tryz.sizeOf23⟩, ⟨⟨rfl, Tryz.sizeOf3⟩, ⟨⟨rfl, Tryz.sizeOf34⟩, ⟨⟨rfl, Tryz.sizeOf111⟩, trivial⟩⟩⟩⟩⟩
abbrev ib120 := BT.mk Tryz.zeroValue120 (pl := [(0, 1), (1, 1), (2, 1), (3, 1), (4, 1), (5, 1)]) ⟨_, Tryz.underlying120, ⟨⟨rfl, Tryz.sizeOf3⟩, ⟨⟨rfl, Tryz.sizeOf35⟩, ⟨⟨rfl, Tryz.sizeOf118⟩, ⟨⟨rfl, Tryz.sizeOf119⟩, ⟨⟨rfl, Tryz.sizeOf3⟩, ⟨⟨rfl, Tryz.sizeOf3⟩, trivial⟩⟩⟩⟩⟩⟩⟩
abbrev ib121 := BT.mk Tryz.zeroValue121 (pl := [(0, 1), (1, 1), (2, 1), (3, 1), (4, 1), (5, 1)]) ⟨_, Tryz.underlying121, ⟨⟨rfl, Tryz.sizeOf3⟩, ⟨⟨rfl, Tryz.sizeOf35⟩, ⟨⟨rfl, Tryz.sizeOf118⟩, ⟨⟨rfl, Tryz.sizeOf119⟩, ⟨⟨rfl, Tryz.sizeOf3⟩, ⟨⟨rfl, Tryz.sizeOf3⟩, trivial⟩⟩⟩⟩⟩⟩⟩
abbrev ib123 := BT.mk Tryz.zeroValue123 (pl := []) ⟨_, Tryz.underlying123, trivial⟩
abbrev ib124 := BT.mk Tryz.zeroValue124 (pl := []) ⟨_, Tryz.underlying124, trivial⟩
abbrev ib133 := BT.mk Tryz.zeroValue133 (pl := [(0, 1), (1, 3), (4, 1), (5, 1), (6, 1), (7, 1)]) ⟨_, Tryz.underlying133, ⟨⟨rfl, Tryz.sizeOf28⟩, ⟨⟨rfl, Tryz.sizeOf23⟩, ⟨⟨rfl, Tryz.sizeOf35⟩, ⟨⟨rfl, Tryz.sizeOf34⟩, ⟨⟨rfl, Tryz.sizeOf3⟩, ⟨⟨rfl, Tryz.sizeOf4⟩, trivial⟩⟩⟩⟩⟩⟩⟩
abbrev ib134 := BT.mk Tryz.zeroValue134 (pl := [(0, 1), (1, 3), (4, 1), (5, 1), (6, 1), (7, 1)]) ⟨_, Tryz.underlying134, ⟨⟨rfl, Tryz.sizeOf28⟩, ⟨⟨rfl, Tryz.sizeOf23⟩, ⟨⟨rfl, Tryz.sizeOf35⟩, ⟨⟨rfl, Tryz.sizeOf34⟩, ⟨⟨rfl, Tryz.sizeOf3⟩, ⟨⟨rfl, Tryz.sizeOf4⟩, trivial⟩⟩⟩⟩⟩⟩⟩
abbrev ib194 := BT.mk Tryz.zeroValue194 (pl := [(0, 1), (1, 1), (2, 1), (3, 1)]) ⟨_, Tryz.underlying194, ⟨⟨rfl, Tryz.sizeOf17⟩, ⟨⟨rfl, Tryz.sizeOf17⟩, ⟨⟨rfl, Tryz.sizeOf17⟩, ⟨⟨rfl, Tryz.sizeOf9⟩, trivial⟩⟩⟩⟩⟩
abbrev ib195 := BT.mk Tryz.zeroValue195 (pl := [(0, 1), (1, 1), (2, 1), (3, 1)]) ⟨_, Tryz.underlying195, ⟨⟨rfl, Tryz.sizeOf17⟩, ⟨⟨rfl, Tryz.sizeOf17⟩, ⟨⟨rfl, Tryz.sizeOf17⟩, ⟨⟨rfl, Tryz.sizeOf9⟩, trivial⟩⟩⟩⟩⟩
abbrev ib197 := BT.mk Tryz.zeroValue197 (pl := [(0, 0)]) ⟨_, Tryz.underlying197, ⟨⟨rfl, Tryz.sizeOf196⟩, trivial⟩⟩
abbrev ib198 := BT.mk Tryz.zeroValue198 (pl := [(0, 0)]) ⟨_, Tryz.underlying198, ⟨⟨rfl, Tryz.sizeOf196⟩, trivial⟩⟩
abbrev ib205 := BT.mk Tryz.zeroValue205 (pl := [(0, 1), (1, 1), (2, 1), (3, 1), (4, 1), (5, 1), (6, 1), (7, 1), (8, 1), (9, 1), (10, 1)]) ⟨_, Tryz.underlying205, ⟨⟨rfl, Tryz.sizeOf12⟩, ⟨⟨rfl, Tryz.sizeOf12⟩, ⟨⟨rfl, Tryz.sizeOf111⟩, ⟨⟨rfl, Tryz.sizeOf199⟩, ⟨⟨rfl, Tryz.sizeOf5⟩, ⟨⟨rfl, Tryz.sizeOf5⟩, ⟨⟨rfl, Tryz.sizeOf200⟩, ⟨⟨rfl, Tryz.sizeOf201⟩, ⟨⟨rfl, Tryz.sizeOf202⟩, ⟨⟨rfl, Tryz.sizeOf203⟩, ⟨⟨rfl, Tryz.sizeOf204⟩, trivial⟩⟩⟩⟩⟩⟩⟩⟩⟩⟩⟩⟩
abbrev ib206 := BT.mk Tryz.zeroValue206 (pl := [(0, 1), (1, 1), (2, 1), (3, 1), (4, 1), (5, 1), (6, 1), (7, 1), (8, 1), (9, 1), (10, 1)]) ⟨_, Tryz.underlying206, ⟨⟨rfl, Tryz.sizeOf12⟩, ⟨⟨rfl, Tryz.sizeOf12⟩, ⟨⟨rfl, Tryz.sizeOf111⟩, ⟨⟨rfl, Tryz.sizeOf199⟩, ⟨⟨rfl, Tryz.sizeOf5⟩, ⟨⟨rfl, Tryz.sizeOf5⟩, ⟨⟨rfl, Tryz.sizeOf200⟩, ⟨⟨rfl, Tryz.sizeOf201⟩, ⟨⟨rfl, Tryz.sizeOf202⟩, ⟨⟨rfl, Tryz.sizeOf203⟩, ⟨⟨rfl, Tryz.sizeOf204⟩, trivial⟩⟩⟩⟩⟩⟩⟩⟩⟩⟩⟩⟩
abbrev ie7 : SF Tryz.prog 7 [.int, .int, .bool, .int] := ⟨⟨_, Tryz.underlying7, ⟨by decide, rfl, Tryz.isAgg2, ⟨_, Tryz.underlying2⟩, ⟨by decide, rfl, Tryz.isAgg3, ⟨_, Tryz.underlying3⟩, ⟨by decide, rfl, Tryz.isAgg4, Tryz.underlying4, ⟨by decide, rfl, Tryz.isAgg6, ⟨_, Tryz.underlying6⟩, trivial⟩⟩⟩⟩⟩, Tryz.eqGuardType7, Tryz.stoodInHeld7⟩
abbrev ie8 : SF Tryz.prog 8 [.int, .int, .bool, .int] := ⟨⟨_, Tryz.underlying8, ⟨by decide, rfl, Tryz.isAgg2, ⟨_, Tryz.underlying2⟩, ⟨by decide, rfl, Tryz.isAgg3, ⟨_, Tryz.underlying3⟩, ⟨by decide, rfl, Tryz.isAgg4, Tryz.underlying4, ⟨by decide, rfl, Tryz.isAgg6, ⟨_, Tryz.underlying6⟩, trivial⟩⟩⟩⟩⟩, Tryz.eqGuardType8, Tryz.stoodInHeld8⟩
abbrev ie22 : SF Tryz.prog 22 [.int, .int, .int] := ⟨⟨_, Tryz.underlying22, ⟨by decide, rfl, Tryz.isAgg3, ⟨_, Tryz.underlying3⟩, ⟨by decide, rfl, Tryz.isAgg3, ⟨_, Tryz.underlying3⟩, ⟨by decide, rfl, Tryz.isAgg3, ⟨_, Tryz.underlying3⟩, trivial⟩⟩⟩⟩, Tryz.eqGuardType22, Tryz.stoodInHeld22⟩
abbrev ie23 : SF Tryz.prog 23 [.int, .int, .int] := ⟨⟨_, Tryz.underlying23, ⟨by decide, rfl, Tryz.isAgg3, ⟨_, Tryz.underlying3⟩, ⟨by decide, rfl, Tryz.isAgg3, ⟨_, Tryz.underlying3⟩, ⟨by decide, rfl, Tryz.isAgg3, ⟨_, Tryz.underlying3⟩, trivial⟩⟩⟩⟩, Tryz.eqGuardType23, Tryz.stoodInHeld23⟩
abbrev ic2 := HasBody.mk Tryz.call2
abbrev ic3 := HasBody.mk Tryz.call3
abbrev ic4 := HasBody.mk Tryz.call4
abbrev ic5 := HasBody.mk Tryz.call5
abbrev ic6 := HasBody.mk Tryz.call6
abbrev ic7 := HasBody.mk Tryz.call7
abbrev ic8 := HasBody.mk Tryz.call8
abbrev ic9 := HasBody.mk Tryz.call9
abbrev ic10 := HasBody.mk Tryz.call10
abbrev ic11 := HasBody.mk Tryz.call11
abbrev ic12 := HasBody.mk Tryz.call12
abbrev ic13 := HasBody.mk Tryz.call13
abbrev ic14 := HasBody.mk Tryz.call14
abbrev ic15 := HasBody.mk Tryz.call15
abbrev ic16 := HasBody.mk Tryz.call16
abbrev ic17 := HasBody.mk Tryz.call17
abbrev ic18 := HasBody.mk Tryz.call18
abbrev ic19 := HasBody.mk Tryz.call19
abbrev ic20 := HasBody.mk Tryz.call20
abbrev ic21 := HasBody.mk Tryz.call21
abbrev ic22 := HasBody.mk Tryz.call22
abbrev ic23 := HasBody.mk Tryz.call23
abbrev ic24 := HasBody.mk Tryz.call24
abbrev ic25 := HasBody.mk Tryz.call25
abbrev ic26 := HasBody.mk Tryz.call26
abbrev ic27 := HasBody.mk Tryz.call27
abbrev ic28 := HasBody.mk Tryz.call28
abbrev ic29 := HasBody.mk Tryz.call29
abbrev ic30 := HasBody.mk Tryz.call30
abbrev ic31 := HasBody.mk Tryz.call31
abbrev ic32 := HasBody.mk Tryz.call32
abbrev ic33 := HasBody.mk Tryz.call33
abbrev ic34 := HasBody.mk Tryz.call34
abbrev ic35 := HasBody.mk Tryz.call35
abbrev ic36 := HasBody.mk Tryz.call36
abbrev ic37 := HasBody.mk Tryz.call37
abbrev ic38 := HasBody.mk Tryz.call38
abbrev ic39 := HasBody.mk Tryz.call39
abbrev ic40 := HasBody.mk Tryz.call40
abbrev ic41 := HasBody.mk Tryz.call41
abbrev ic42 := HasBody.mk Tryz.call42
abbrev ic43 := HasBody.mk Tryz.call43
abbrev ic44 := HasBody.mk Tryz.call44
abbrev ic45 := HasBody.mk Tryz.call45
abbrev ic46 := HasBody.mk Tryz.call46
abbrev ic47 := HasBody.mk Tryz.call47
abbrev ic48 := HasBody.mk Tryz.call48
abbrev ic49 := HasBody.mk Tryz.call49
abbrev ic50 := HasBody.mk Tryz.call50
abbrev ic51 := HasBody.mk Tryz.call51
abbrev ic52 := HasBody.mk Tryz.call52
abbrev ic53 := HasBody.mk Tryz.call53
abbrev ic54 := HasBody.mk Tryz.call54
abbrev ic55 := HasBody.mk Tryz.call55
abbrev ic56 := HasBody.mk Tryz.call56
abbrev ic57 := HasBody.mk Tryz.call57
abbrev ic58 := HasBody.mk Tryz.call58
abbrev ic59 := HasBody.mk Tryz.call59
abbrev ic60 := HasBody.mk Tryz.call60
abbrev ic61 := HasBody.mk Tryz.call61
abbrev ic62 := HasBody.mk Tryz.call62
abbrev ic63 := HasBody.mk Tryz.call63
abbrev ic64 := HasBody.mk Tryz.call64
abbrev ic65 := HasBody.mk Tryz.call65
abbrev ic66 := HasBody.mk Tryz.call66
abbrev ic67 := HasBody.mk Tryz.call67
abbrev ic68 := HasBody.mk Tryz.call68
abbrev ic69 := HasBody.mk Tryz.call69
abbrev ic70 := HasBody.mk Tryz.call70
abbrev ic71 := HasBody.mk Tryz.call71
abbrev ic72 := HasBody.mk Tryz.call72
abbrev ic73 := HasBody.mk Tryz.call73
abbrev ic74 := HasBody.mk Tryz.call74
abbrev ic75 := HasBody.mk Tryz.call75
abbrev ic76 := HasBody.mk Tryz.call76
abbrev ic77 := HasBody.mk Tryz.call77
abbrev ic78 := HasBody.mk Tryz.call78
abbrev ic79 := HasBody.mk Tryz.call79
abbrev ic80 := HasBody.mk Tryz.call80
abbrev ic81 := HasBody.mk Tryz.call81
abbrev ic82 := HasBody.mk Tryz.call82
abbrev ic83 := HasBody.mk Tryz.call83
abbrev ic84 := HasBody.mk Tryz.call84
abbrev ic85 := HasBody.mk Tryz.call85
abbrev ic86 := HasBody.mk Tryz.call86
abbrev ic87 := HasBody.mk Tryz.call87
abbrev ic88 := HasBody.mk Tryz.call88
abbrev ic89 := HasBody.mk Tryz.call89
abbrev ic90 := HasBody.mk Tryz.call90
abbrev ic91 := HasBody.mk Tryz.call91
abbrev ic92 := HasBody.mk Tryz.call92
abbrev ic93 := HasBody.mk Tryz.call93
abbrev ic94 := HasBody.mk Tryz.call94
abbrev ic95 := HasBody.mk Tryz.call95
abbrev ic96 := HasBody.mk Tryz.call96
abbrev ic97 := HasBody.mk Tryz.call97
abbrev ic98 := HasBody.mk Tryz.call98
abbrev ic99 := HasBody.mk Tryz.call99
abbrev ic100 := HasBody.mk Tryz.call100
abbrev ic101 := HasBody.mk Tryz.call101
abbrev ic102 := HasBody.mk Tryz.call102
abbrev ic103 := HasBody.mk Tryz.call103
abbrev ic104 := HasBody.mk Tryz.call104
abbrev ic105 := HasBody.mk Tryz.call105
abbrev ic106 := HasBody.mk Tryz.call106
abbrev ic107 := HasBody.mk Tryz.call107
abbrev ic108 := HasBody.mk Tryz.call108
abbrev ic109 := HasBody.mk Tryz.call109
abbrev ic110 := HasBody.mk Tryz.call110
abbrev ic111 := HasBody.mk Tryz.call111
abbrev ic112 := HasBody.mk Tryz.call112
abbrev ic113 := HasBody.mk Tryz.call113
abbrev ic114 := HasBody.mk Tryz.call114
abbrev ic115 := HasBody.mk Tryz.call115
abbrev ic116 := HasBody.mk Tryz.call116
abbrev ic117 := HasBody.mk Tryz.call117
abbrev ic118 := HasBody.mk Tryz.call118
abbrev ic119 := HasBody.mk Tryz.call119
abbrev ic120 := HasBody.mk Tryz.call120
abbrev ic121 := HasBody.mk Tryz.call121
abbrev ic122 := HasBody.mk Tryz.call122
abbrev ic123 := HasBody.mk Tryz.call123
abbrev ic124 := HasBody.mk Tryz.call124
abbrev ic125 := HasBody.mk Tryz.call125
abbrev ic126 := HasBody.mk Tryz.call126
abbrev ic127 := HasBody.mk Tryz.call127
abbrev ic128 := HasBody.mk Tryz.call128
abbrev ic129 := HasBody.mk Tryz.call129
abbrev ic130 := HasBody.mk Tryz.call130
abbrev ic131 := HasBody.mk Tryz.call131
abbrev ic132 := HasBody.mk Tryz.call132
abbrev ic133 := HasBody.mk Tryz.call133
abbrev ic134 := HasBody.mk Tryz.call134
abbrev ic135 := HasBody.mk Tryz.call135
abbrev ic136 := HasBody.mk Tryz.call136
abbrev ic137 := HasBody.mk Tryz.call137
abbrev ic138 := HasBody.mk Tryz.call138
abbrev ic139 := HasBody.mk Tryz.call139
abbrev ic140 := HasBody.mk Tryz.call140
theorem imz141 : MZ Tryz.prog 141 5 := ⟨fun m hm w => by
  obtain ⟨cs, h1, h2, _⟩ := Lib.run_makeNoZero (P := Tryz.prog) w #[2] 35 5 Tryz.underlying35 m hm
  refine ⟨cs, ?_, h2⟩
  rw [run_callFunc_extern Tryz.func141 (by kernel_rfl) (by kernel_rfl) (by kernel_rfl) (e := Extern.BytealgMakeNoZero.makeNoZero #[2] #[35]) (by kernel_rfl), h1]
  rfl⟩
abbrev ic142 := HasBody.mk Tryz.call142
abbrev ic143 := HasBody.mk Tryz.call143
abbrev ic144 := HasBody.mk Tryz.call144
abbrev ic145 := HasBody.mk Tryz.call145
abbrev ic146 := HasBody.mk Tryz.call146
abbrev ic147 := HasBody.mk Tryz.call147
abbrev ic148 := HasBody.mk Tryz.call148
abbrev ic149 := HasBody.mk Tryz.call149
abbrev ic150 := HasBody.mk Tryz.call150
abbrev ic151 := HasBody.mk Tryz.call151
abbrev ic152 := HasBody.mk Tryz.call152
abbrev ic153 := HasBody.mk Tryz.call153
abbrev ic154 := HasBody.mk Tryz.call154
abbrev ic155 := HasBody.mk Tryz.call155
abbrev ic156 := HasBody.mk Tryz.call156
abbrev ic157 := HasBody.mk Tryz.call157
abbrev ic158 := HasBody.mk Tryz.call158
abbrev ic159 := HasBody.mk Tryz.call159
abbrev ic160 := HasBody.mk Tryz.call160
abbrev ic161 := HasBody.mk Tryz.call161
abbrev ic162 := HasBody.mk Tryz.call162
abbrev ic183 := HasBody.mk Tryz.call183
attribute [instance] iu0 ia0 is0 it0 iu1 ia1 is1 it1 iu2 ia2 is2 it2
attribute [instance] iz2 iu3 ia3 is3 it3 iz3 iu4 ia4 is4 it4 iz4 iu5
attribute [instance] ia5 is5 it5 iz5 iu6 ia6 is6 it6 iz6 iu7 ia7 is7
attribute [instance] it7 iz7 iu8 ia8 is8 it8 iz8 iu9 ia9 is9 it9 iz9
attribute [instance] iu10 ia10 is10 it10 iz10 iu11 ia11 is11 it11 iz11 iu12 ia12
attribute [instance] is12 it12 iz12 iu13 ia13 is13 it13 iz13 iu14 ia14 is14 it14
attribute [instance] iz14 iu15 ia15 is15 it15 iz15 iu16 ia16 is16 it16 iz16 iu17
attribute [instance] ia17 is17 it17 iz17 iu18 ia18 is18 it18 iz18 iu19 ia19 is19
attribute [instance] it19 iz19 iu20 ia20 is20 it20 iu21 ia21 is21 it21 iz21 iu22
attribute [instance] ia22 is22 it22 iz22 iu23 ia23 is23 it23 iz23 iu24 ia24 is24
attribute [instance] it24 iz24 iu25 ia25 is25 it25 iu26 ia26 is26 it26 iu27 ia27
attribute [instance] is27 it27 iu28 ia28 is28 it28 iz28 iu29 ia29 is29 it29 iz29
attribute [instance] iu30 ia30 is30 it30 iu31 ia31 is31 it31 iu32 ia32 is32 it32
attribute [instance] iz32 iu33 ia33 is33 it33 iu34 ia34 is34 it34 iz34 iu35 ia35
attribute [instance] is35 it35 iz35 iu36 ia36 is36 it36 iz36 iu37 ia37 is37 it37
attribute [instance] iz37 iu38 ia38 is38 it38 iz38 iu39 ia39 is39 it39 iu40 ia40
attribute [instance] is40 it40 iu41 ia41 is41 it41 iu42 ia42 is42 it42 iu43 ia43
attribute [instance] is43 it43 iu44 ia44 is44 it44 iu45 ia45 is45 it45 iz45 iu46
attribute [instance] ia46 is46 it46 iz46 iu47 ia47 is47 it47 iu48 ia48 is48 it48
attribute [instance] iu49 ia49 is49 it49 iu50 ia50 is50 it50 iu51 ia51 is51 it51
attribute [instance] iu52 ia52 is52 it52 iu53 ia53 is53 it53 iu54 ia54 is54 it54
attribute [instance] iu55 ia55 is55 it55 iz55 iu56 ia56 is56 it56 iz56 iu57 ia57
attribute [instance] is57 it57 iz57 iu58 ia58 is58 it58 iz58 iu59 ia59 is59 it59
attribute [instance] iu60 ia60 is60 it60 iu61 ia61 is61 it61 iu62 ia62 is62 it62
attribute [instance] iu63 ia63 is63 it63 iu64 ia64 is64 it64 iu65 ia65 is65 it65
attribute [instance] iu66 ia66 is66 it66 iz66 iu67 ia67 is67 it67 iu68 ia68 is68
attribute [instance] it68 iu69 ia69 is69 it69 iu70 ia70 is70 it70 iu71 ia71 is71
attribute [instance] it71 iu72 ia72 is72 it72 iu73 ia73 is73 it73 iu74 ia74 is74
attribute [instance] it74 iu75 ia75 is75 it75 iu76 ia76 is76 it76 iu77 ia77 is77
attribute [instance] it77 iu78 ia78 is78 it78 iz78 iu79 ia79 is79 it79 iz79 iu80
attribute [instance] ia80 is80 it80 iz80 iu81 ia81 is81 it81 iu82 ia82 is82 it82
attribute [instance] iu83 ia83 is83 it83 iu84 ia84 is84 it84 iu85 ia85 is85 it85
attribute [instance] iu86 ia86 is86 it86 iu87 ia87 is87 it87 iu88 ia88 is88 it88
attribute [instance] iz88 iu89 ia89 is89 it89 iz89 iu90 ia90 is90 it90 iz90 iu91
attribute [instance] ia91 is91 it91 iz91 iu92 ia92 is92 it92 iu93 ia93 is93 it93
attribute [instance] iu94 ia94 is94 it94 iu95 ia95 is95 it95 iz95 iu96 ia96 is96
attribute [instance] it96 iz96 iu97 ia97 is97 it97 iu98 ia98 is98 it98 iu99 ia99
attribute [instance] is99 it99 iz99 iu100 ia100 is100 it100 iz100 iu101 ia101 is101 it101
attribute [instance] iu102 ia102 is102 it102 iu103 ia103 is103 it103 iu104 ia104 is104 it104
attribute [instance] iz104 iu105 ia105 is105 it105 iz105 iu106 ia106 is106 it106 iu107 ia107
attribute [instance] is107 it107 iu108 ia108 is108 it108 iu109 ia109 is109 it109 iu110 ia110
attribute [instance] is110 it110 iu111 ia111 is111 it111 iz111 iu112 ia112 is112 it112 iu113
attribute [instance] ia113 is113 it113 iz113 iu114 ia114 is114 it114 iz114 iu115 ia115 is115
attribute [instance] it115 iu116 ia116 is116 it116 iu117 ia117 is117 it117 iu118 ia118 is118
attribute [instance] it118 iz118 iu119 ia119 is119 it119 iz119 iu120 ia120 is120 it120 iz120
attribute [instance] iu121 ia121 is121 it121 iz121 iu122 ia122 is122 it122 iu123 ia123 is123
attribute [instance] it123 iz123 iu124 ia124 is124 it124 iz124 iu125 ia125 is125 it125 iu126
attribute [instance] ia126 is126 it126 iu127 ia127 is127 it127 iu128 ia128 is128 it128 iz128
attribute [instance] iu129 ia129 is129 it129 iu130 ia130 is130 it130 iu131 ia131 is131 it131
attribute [instance] iu132 ia132 is132 it132 iu133 ia133 is133 it133 iz133 iu134 ia134 is134
attribute [instance] it134 iz134 iu135 ia135 is135 it135 iu136 ia136 is136 it136 iu137 ia137
attribute [instance] is137 it137 iu138 ia138 is138 it138 iu139 ia139 is139 it139 iu140 ia140
attribute [instance] is140 it140 iu141 ia141 is141 it141 iu142 ia142 is142 it142 iu143 ia143
attribute [instance] is143 it143 iu144 ia144 is144 it144 iu145 ia145 is145 it145 iz145 iu146
attribute [instance] ia146 is146 it146 iu147 ia147 is147 it147 iu148 ia148 is148 it148 iu149
attribute [instance] ia149 is149 it149 iu150 ia150 is150 it150 iu151 ia151 is151 it151 iu152
attribute [instance] ia152 is152 it152 iu153 ia153 is153 it153 iu154 ia154 is154 it154 iu155
attribute [instance] ia155 is155 it155 iu156 ia156 is156 it156 iu157 ia157 is157 it157 iu158
attribute [instance] ia158 is158 it158 iu159 ia159 is159 it159 iz159 iu160 ia160 is160 it160
attribute [instance] iu161 ia161 is161 it161 iu162 ia162 is162 it162 iu163 ia163 is163 it163
attribute [instance] iu164 ia164 is164 it164 iu165 ia165 is165 it165 iu166 ia166 is166 it166
attribute [instance] iu167 ia167 is167 it167 iz167 iu168 ia168 is168 it168 iu169 ia169 is169
attribute [instance] it169 iu170 ia170 is170 it170 iu171 ia171 is171 it171 iz171 iu172 ia172
attribute [instance] is172 it172 iu173 ia173 is173 it173 iu174 ia174 is174 it174 iu175 ia175
attribute [instance] is175 it175 iu176 ia176 is176 it176 iu177 ia177 is177 it177 iu178 ia178
attribute [instance] is178 it178 iu179 ia179 is179 it179 iu180 ia180 is180 it180 iu181 ia181
attribute [instance] is181 it181 iu182 ia182 is182 it182 iu183 ia183 is183 it183 iu184 ia184
attribute [instance] is184 it184 iz184 iu185 ia185 is185 it185 iz185 iu186 ia186 is186 it186
attribute [instance] iu187 ia187 is187 it187 iu188 ia188 is188 it188 iz188 iu189 ia189 is189
attribute [instance] it189 iu190 ia190 is190 it190 iz190 iu191 ia191 is191 it191 iu192 ia192
attribute [instance] is192 it192 iu193 ia193 is193 it193 iu194 ia194 is194 it194 iz194 iu195
attribute [instance] ia195 is195 it195 iz195 iu196 ia196 is196 it196 iz196 iu197 ia197 is197
attribute [instance] it197 iz197 iu198 ia198 is198 it198 iz198 iu199 ia199 is199 it199 iz199
attribute [instance] iu200 ia200 is200 it200 iz200 iu201 ia201 is201 it201 iu202 ia202 is202
attribute [instance] it202 iz202 iu203 ia203 is203 it203 iz203 iu204 ia204 is204 it204 iz204
attribute [instance] iu205 ia205 is205 it205 iz205 iu206 ia206 is206 it206 iz206 iu207 ia207
attribute [instance] is207 it207 iz207 if7_0 if7_1 if7_2 if7_3 if8_0 if8_1 if8_2 if8_3 if13_0
attribute [instance] if13_1 if14_0 if14_1 if18_0 if19_0 if22_0 if22_1 if22_2 if23_0 if23_1 if23_2 if37_0
attribute [instance] if37_1 if37_2 if37_3 if37_4 if37_5 if38_0 if38_1 if38_2 if38_3 if38_4 if38_5 if45_0
attribute [instance] if45_1 if45_2 if45_3 if46_0 if46_1 if46_2 if46_3 if57_0 if57_1 if57_2 if57_3 if57_4
attribute [instance] if57_5 if58_0 if58_1 if58_2 if58_3 if58_4 if58_5 if78_0 if78_1 if78_2 if78_3 if79_0
attribute [instance] if79_1 if79_2 if79_3 if89_0 if89_1 if89_2 if89_3 if90_0 if90_1 if90_2 if90_3 if95_0
attribute [instance] if95_1 if95_2 if95_3 if95_4 if95_5 if96_0 if96_1 if96_2 if96_3 if96_4 if96_5 if99_0
attribute [instance] if99_1 if100_0 if100_1 if104_0 if104_1 if104_2 if104_3 if105_0 if105_1 if105_2 if105_3 if113_0
attribute [instance] if113_1 if113_2 if113_3 if114_0 if114_1 if114_2 if114_3 if120_0 if120_1 if120_2 if120_3 if120_4
attribute [instance] if120_5 if121_0 if121_1 if121_2 if121_3 if121_4 if121_5 if133_0 if133_1 if133_2 if133_3 if133_4
attribute [instance] if133_5 if134_0 if134_1 if134_2 if134_3 if134_4 if134_5 if194_0 if194_1 if194_2 if194_3 if195_0
attribute [instance] if195_1 if195_2 if195_3 if205_0 if205_1 if205_2 if205_3 if205_4 if205_5 if205_6 if205_7 if205_8
attribute [instance] if205_9 if205_10 if206_0 if206_1 if206_2 if206_3 if206_4 if206_5 if206_6 if206_7 if206_8 if206_9
attribute [instance] if206_10 ib7 ib8 ib13 ib14 ib18 ib19 ib22 ib23 ib37 ib38 ib45
attribute [instance] ib46 ib57 ib58 ib78 ib79 ib89 ib90 ib95 ib96 ib99 ib100 ib104
attribute [instance] ib105 ib113 ib114 ib120 ib121 ib123 ib124 ib133 ib134 ib194 ib195 ib197
attribute [instance] ib198 ib205 ib206 ie7 ie8 ie22 ie23 ic2 ic3 ic4 ic5 ic6
attribute [instance] ic7 ic8 ic9 ic10 ic11 ic12 ic13 ic14 ic15 ic16 ic17 ic18
attribute [instance] ic19 ic20 ic21 ic22 ic23 ic24 ic25 ic26 ic27 ic28 ic29 ic30
attribute [instance] ic31 ic32 ic33 ic34 ic35 ic36 ic37 ic38 ic39 ic40 ic41 ic42
attribute [instance] ic43 ic44 ic45 ic46 ic47 ic48 ic49 ic50 ic51 ic52 ic53 ic54
attribute [instance] ic55 ic56 ic57 ic58 ic59 ic60 ic61 ic62 ic63 ic64 ic65 ic66
attribute [instance] ic67 ic68 ic69 ic70 ic71 ic72 ic73 ic74 ic75 ic76 ic77 ic78
attribute [instance] ic79 ic80 ic81 ic82 ic83 ic84 ic85 ic86 ic87 ic88 ic89 ic90
attribute [instance] ic91 ic92 ic93 ic94 ic95 ic96 ic97 ic98 ic99 ic100 ic101 ic102
attribute [instance] ic103 ic104 ic105 ic106 ic107 ic108 ic109 ic110 ic111 ic112 ic113 ic114
attribute [instance] ic115 ic116 ic117 ic118 ic119 ic120 ic121 ic122 ic123 ic124 ic125 ic126
attribute [instance] ic127 ic128 ic129 ic130 ic131 ic132 ic133 ic134 ic135 ic136 ic137 ic138
attribute [instance] ic139 ic140 imz141 ic142 ic143 ic144 ic145 ic146 ic147 ic148 ic149 ic150
attribute [instance] ic151 ic152 ic153 ic154 ic155 ic156 ic157 ic158 ic159 ic160 ic161 ic162
attribute [instance] ic183
theorem mixed : Tryz.prog.follows .mixedOrders = true := by kernel_rfl
end Go.Sep
/- geo, and the document's own numbers of chips: what each answers. -/
namespace Go.Sep
open Go Go.Proofs
attribute [local irreducible] JO JC JE JA JQ JB JI Mid Inv Weak ownS Ru Do Fn Sat Pick Take arr pt star ex Holds bodyPost Post Exit.then Exit.inBlock Res
variable {σ : Sig} {F : List HP}
abbrev int (n : Int) : Value := .int .i64 n
abbrev geoV (e f s : Int) : Value := .agg #[int e, int f, int s]
def within (a b : Int) : Bool := decide (0 ≤ a ∧ a ≤ b)
def rightG (e f s : Int) : Bool := decide (0 ≤ e ∧ e ≤ 10 ∧ 0 ≤ f ∧ f ≤ 64 ∧ 0 ≤ s ∧ s ≤ 128)
def epT : List Int := [0, 128, 256, 512, 1024, 2048, 4096, 8192, 16384, 32768, 65536]
def epSize (k : Int) : Int := if 0 ≤ k ∧ k ≤ 10 then epT.getD k.toNat 0 else 0
def flSize (a : Int) : Int := if 0 ≤ a ∧ a ≤ 64 then a * 256 else 0
def srSize (a : Int) : Int := if 0 ≤ a ∧ a ≤ 128 then a * 64 else 0
def totG (e f s : Int) : Int := if rightG e f s = true then epSize e + flSize f + srSize s else 0

theorem epSize_bd (k : Int) : 0 ≤ epSize k ∧ epSize k ≤ 65536 := by
  unfold epSize
  split
  · rename_i h
    have : k = 0 ∨ k = 1 ∨ k = 2 ∨ k = 3 ∨ k = 4 ∨ k = 5 ∨ k = 6 ∨ k = 7 ∨ k = 8 ∨ k = 9 ∨ k = 10 := by omega
    rcases this with rfl | rfl | rfl | rfl | rfl | rfl | rfl | rfl | rfl | rfl | rfl <;> decide
  · decide
theorem flSize_bd (k : Int) : 0 ≤ flSize k ∧ flSize k ≤ 16384 := by unfold flSize; split <;> omega
theorem srSize_bd (k : Int) : 0 ≤ srSize k ∧ srSize k ≤ 8192 := by unfold srSize; split <;> omega
theorem totG_bd (e f s : Int) : 0 ≤ totG e f s ∧ totG e f s ≤ 90112 := by
  have := epSize_bd e; have := flSize_bd f; have := srSize_bd s
  unfold totG; split <;> omega

theorem finS {post : Value → List HP → Prop} {v : Value} {l : List HP} (h : post v l) : fin post v l σ := ⟨l, fun _ h => h, h⟩
theorem finD {post : Value → List HP → Prop} {v : Value} {p : HP} {l : List HP} (h : fin post v l σ) : fin post v (p :: l) σ := by
  obtain ⟨l', e, h⟩ := h
  exact ⟨l', fun w s => e w (Sat.drop s), h⟩

/-- The table of the kinds, where it lies. -/
def rowsC : List Value := ([0, 0, 0, 0, 7, 3, 1, 0, 8, 3, 1, 0, 9, 4, 1, 1, 10, 4, 1, 2, 11, 4, 1, 3, 12, 5, 2, 0, 13, 5, 2, 0, 14, 6, 2, 0, 15, 6, 2, 0, 16, 7, 2, 0] : List Int).map int
class InG (l : List HP) : Prop where
  h : ∃ E r, Weak l (arr 1 E rowsC :: r)
instance InG.cons {p : HP} {l : List HP} [h : InG l] : InG (p :: l) := ⟨let ⟨E, r, k⟩ := h.h; ⟨E, p :: r, Weak.under k⟩⟩

theorem geo_within (a b : Int) : Fn Tryz.prog σ 132 #[int a, int b] F (fun v l => v = .bool (within a b) ∧ l = F) := by
  refine Fn.of Tryz.func132 rfl Tryz.ntmps132 rfl ?_
  repeat' (first | (apply JO.ru; exact rfl; exact rfl; exact rfl; (first | (apply Ru.move; exact rfl) | (apply Ru.loadN; exact rfl; (repeat (first | exact Pick.here | apply Pick.there)); exact rfl) | (apply Ru.load; exact rfl; (repeat (first | exact Pick.here | apply Pick.there)); exact rfl) | (apply Ru.fieldAddr; exact rfl) | (apply Ru.nilP; exact rfl) | (apply Ru.assign; exact rfl) | (apply Ru.lenS; exact rfl) | (apply Ru.lss; exact rfl; exact rfl; (first | exact decT (by omega) | exact decF (by omega))) | (apply Ru.leq; exact rfl; exact rfl; (first | exact decT (by omega) | exact decF (by omega))) | (apply Ru.gtr; exact rfl; exact rfl; (first | exact decT (by omega) | exact decF (by omega))) | (apply Ru.geq; exact rfl; exact rfl; (first | exact decT (by omega) | exact decF (by omega))) | (apply Ru.eql; exact rfl; exact rfl; (first | exact decT (by omega) | exact decF (by omega))) | (apply Ru.neq; exact rfl; exact rfl; (first | exact ndecF (by omega) | exact ndecT (by omega))) | (apply Ru.add; exact rfl; exact rfl; (first | exact wrapI (by omega) (by omega) | exact rfl)) | (apply Ru.sub; exact rfl; exact rfl; (first | exact wrapI (by omega) (by omega) | exact rfl)) | (apply Ru.mul; exact rfl; exact rfl; (first | exact wrapI (by omega) (by omega) | exact rfl)) | (apply Ru.pickT; exact rfl; exact rfl) | (apply Ru.pickF; exact rfl; exact rfl) | (apply Ru.not; exact rfl) | (apply Ru.extractN; exact rfl; exact rfl) | (apply Ru.extract; exact rfl; exact rfl) | (apply Ru.indexAddr; exact rfl; exact rfl; omega; omega) | (apply Ru.indexAddrA; exact rfl; exact rfl; omega; omega) | (apply Ru.loadAN; exact rfl; (repeat (first | exact Pick.here | apply Pick.there)); exact rfl; exact rfl) | (apply Ru.loadA; exact rfl; (repeat (first | exact Pick.here | apply Pick.there)); exact rfl; exact rfl) | (apply Ru.fieldN; exact rfl; exact rfl) | (apply Ru.field; exact rfl; exact rfl) | (apply Ru.fieldA; exact rfl) | (apply Ru.buildN; exact rfl; exact rfl) | (apply Ru.build; exact rfl; exact rfl) | (apply Ru.buildArr; exact rfl; exact rfl) | (apply Ru.makeFunc; exact rfl; exact rfl) | (apply Ru.eqlPN; exact rfl; exact rfl) | (apply Ru.neqPN; exact rfl; exact rfl) | (apply Ru.eqlSN; exact rfl; exact rfl) | (apply Ru.neqSN; exact rfl; exact rfl) | (apply Ru.quoN; exact rfl; exact rfl; omega; omega; omega) | (apply Ru.remN; exact rfl; exact rfl; omega; omega) | (apply Ru.and; exact rfl; exact rfl) | (apply Ru.or; exact rfl; exact rfl) | (apply Ru.xor; exact rfl; exact rfl) | (apply Ru.andNot; exact rfl; exact rfl) | (apply Ru.shl; exact rfl; exact rfl; decide; exact rfl) | (apply Ru.shr; exact rfl; exact rfl; decide; exact rfl) | (apply Ru.neg; exact rfl; exact rfl) | (apply Ru.com; exact rfl; exact rfl) | (apply Ru.conv; exact rfl; exact rfl) | (apply Ru.sliceS; exact rfl; exact rfl; exact rfl; exact rfl; (first | exact fun _ => rfl | exact fun h => nomatch h); omega; omega; omega))) | refine JC.seq ?_ | refine JC.region ?_ | refine JO.nil ?_ | refine JE.thenN ?_ | refine JE.thenR ?_ | refine JE.thenE ?_ | refine JE.blockN ?_ | refine JE.blockR ?_ | refine JE.blockE ?_ | refine JE.blockO rfl ?_ | refine JC.block ?_ | refine JC.ret ?_ | refine JC.skip ?_ | refine JC.exit ?_ | refine JC.label ?_ | refine JC.condT rfl ?_ | refine JC.condF rfl ?_ | (apply JQ.ru; exact rfl; exact rfl; exact rfl; (first | (apply Ru.move; exact rfl) | (apply Ru.loadN; exact rfl; (repeat (first | exact Pick.here | apply Pick.there)); exact rfl) | (apply Ru.load; exact rfl; (repeat (first | exact Pick.here | apply Pick.there)); exact rfl) | (apply Ru.fieldAddr; exact rfl) | (apply Ru.nilP; exact rfl) | (apply Ru.assign; exact rfl) | (apply Ru.lenS; exact rfl) | (apply Ru.lss; exact rfl; exact rfl; (first | exact decT (by omega) | exact decF (by omega))) | (apply Ru.leq; exact rfl; exact rfl; (first | exact decT (by omega) | exact decF (by omega))) | (apply Ru.gtr; exact rfl; exact rfl; (first | exact decT (by omega) | exact decF (by omega))) | (apply Ru.geq; exact rfl; exact rfl; (first | exact decT (by omega) | exact decF (by omega))) | (apply Ru.eql; exact rfl; exact rfl; (first | exact decT (by omega) | exact decF (by omega))) | (apply Ru.neq; exact rfl; exact rfl; (first | exact ndecF (by omega) | exact ndecT (by omega))) | (apply Ru.add; exact rfl; exact rfl; (first | exact wrapI (by omega) (by omega) | exact rfl)) | (apply Ru.sub; exact rfl; exact rfl; (first | exact wrapI (by omega) (by omega) | exact rfl)) | (apply Ru.mul; exact rfl; exact rfl; (first | exact wrapI (by omega) (by omega) | exact rfl)) | (apply Ru.pickT; exact rfl; exact rfl) | (apply Ru.pickF; exact rfl; exact rfl) | (apply Ru.not; exact rfl) | (apply Ru.extractN; exact rfl; exact rfl) | (apply Ru.extract; exact rfl; exact rfl) | (apply Ru.indexAddr; exact rfl; exact rfl; omega; omega) | (apply Ru.indexAddrA; exact rfl; exact rfl; omega; omega) | (apply Ru.loadAN; exact rfl; (repeat (first | exact Pick.here | apply Pick.there)); exact rfl; exact rfl) | (apply Ru.loadA; exact rfl; (repeat (first | exact Pick.here | apply Pick.there)); exact rfl; exact rfl) | (apply Ru.fieldN; exact rfl; exact rfl) | (apply Ru.field; exact rfl; exact rfl) | (apply Ru.fieldA; exact rfl) | (apply Ru.buildN; exact rfl; exact rfl) | (apply Ru.build; exact rfl; exact rfl) | (apply Ru.buildArr; exact rfl; exact rfl) | (apply Ru.makeFunc; exact rfl; exact rfl) | (apply Ru.eqlPN; exact rfl; exact rfl) | (apply Ru.neqPN; exact rfl; exact rfl) | (apply Ru.eqlSN; exact rfl; exact rfl) | (apply Ru.neqSN; exact rfl; exact rfl) | (apply Ru.quoN; exact rfl; exact rfl; omega; omega; omega) | (apply Ru.remN; exact rfl; exact rfl; omega; omega) | (apply Ru.and; exact rfl; exact rfl) | (apply Ru.or; exact rfl; exact rfl) | (apply Ru.xor; exact rfl; exact rfl) | (apply Ru.andNot; exact rfl; exact rfl) | (apply Ru.shl; exact rfl; exact rfl; decide; exact rfl) | (apply Ru.shr; exact rfl; exact rfl; decide; exact rfl) | (apply Ru.neg; exact rfl; exact rfl) | (apply Ru.com; exact rfl; exact rfl) | (apply Ru.conv; exact rfl; exact rfl) | (apply Ru.sliceS; exact rfl; exact rfl; exact rfl; exact rfl; (first | exact fun _ => rfl | exact fun h => nomatch h); omega; omega; omega))) | (apply JO.split; exact rfl; exact rfl; exact rfl; (first | (apply Ru.lss; exact rfl; exact rfl; exact rfl) | (apply Ru.leq; exact rfl; exact rfl; exact rfl) | (apply Ru.gtr; exact rfl; exact rfl; exact rfl) | (apply Ru.geq; exact rfl; exact rfl; exact rfl) | (apply Ru.eql; exact rfl; exact rfl; exact rfl)); all_goals intro _) | (apply JO.splitN; exact rfl; exact rfl; exact rfl; (apply Ru.neq; exact rfl; exact rfl; exact rfl); all_goals intro _) | (apply JQ.split; exact rfl; exact rfl; exact rfl; (first | (apply Ru.lss; exact rfl; exact rfl; exact rfl) | (apply Ru.leq; exact rfl; exact rfl; exact rfl) | (apply Ru.gtr; exact rfl; exact rfl; exact rfl) | (apply Ru.geq; exact rfl; exact rfl; exact rfl) | (apply Ru.eql; exact rfl; exact rfl; exact rfl)); all_goals intro _) | (apply JQ.splitN; exact rfl; exact rfl; exact rfl; (apply Ru.neq; exact rfl; exact rfl; exact rfl); all_goals intro _) | refine JO.guardF rfl rfl rfl rfl rfl rfl rfl ?_ | refine JO.guardF0 rfl rfl rfl rfl rfl rfl ?_ | refine JO.guardT rfl rfl rfl rfl ?_ | refine JQ.skip rfl rfl rfl ?_ | refine JQ.nil ?_ | (apply JO.do; exact rfl; exact rfl; exact rfl; (first | (apply Do.allocN; exact rfl) | apply Do.alloc); rintro _ _ ⟨_, rfl, rfl⟩) | (apply JO.do; exact rfl; exact rfl; exact rfl; (first | (apply Do.boxN; exact rfl; exact rfl) | (apply Do.box; exact rfl)); rintro _ _ ⟨_, rfl, rfl⟩) | (apply JO.do; exact rfl; exact rfl; exact rfl; (first | (apply Do.buildSliceN; exact rfl; exact rfl; exact rfl; exact rfl) | (apply Do.buildSlice; exact rfl; exact rfl; exact rfl; exact rfl)); rintro _ _ ⟨_, rfl, rfl⟩) | (apply JO.do; exact rfl; exact rfl; exact rfl; apply Do.makeMap; rintro _ _ ⟨_, rfl, rfl⟩) | (apply JO.do0; exact rfl; exact rfl; (first | (apply Do.storeN; exact rfl; exact rfl; exact rfl; (repeat (first | exact Pick.here | apply Pick.there)); exact rfl; exact rfl) | (apply Do.store; exact rfl; exact rfl; exact rfl; (repeat (first | exact Pick.here | apply Pick.there)); exact rfl)); rintro _ _ ⟨rfl, rfl⟩) | (apply JO.do0; exact rfl; exact rfl; (first | (apply Do.storeAN; exact rfl; exact rfl; (repeat (first | exact Pick.here | apply Pick.there)); exact rfl; exact rfl; exact rfl; exact rfl) | (apply Do.storeA; exact rfl; exact rfl; (repeat (first | exact Pick.here | apply Pick.there)); exact rfl; exact rfl; exact rfl)); rintro _ _ ⟨rfl, rfl⟩) | refine JC.regionQ mixed (by decide +kernel) ?_ | (apply JE.done1; exact rfl; (first | (apply Res.tmp; exact rfl) | (apply Res.cell; exact rfl; (repeat (first | exact Pick.here | apply Pick.there)); exact rfl) | (apply Res.cellAN; exact rfl; (repeat (first | exact Pick.here | apply Pick.there)); exact rfl; exact rfl) | (apply Res.cellA; exact rfl; (repeat (first | exact Pick.here | apply Pick.there)); exact rfl; exact rfl))) | (apply JE.done2; exact rfl; (first | (apply Res.tmp; exact rfl) | (apply Res.cell; exact rfl; (repeat (first | exact Pick.here | apply Pick.there)); exact rfl) | (apply Res.cellAN; exact rfl; (repeat (first | exact Pick.here | apply Pick.there)); exact rfl; exact rfl) | (apply Res.cellA; exact rfl; (repeat (first | exact Pick.here | apply Pick.there)); exact rfl; exact rfl)); (first | (apply Res.tmp; exact rfl) | (apply Res.cell; exact rfl; (repeat (first | exact Pick.here | apply Pick.there)); exact rfl) | (apply Res.cellAN; exact rfl; (repeat (first | exact Pick.here | apply Pick.there)); exact rfl; exact rfl) | (apply Res.cellA; exact rfl; (repeat (first | exact Pick.here | apply Pick.there)); exact rfl; exact rfl))) | refine JE.done0 rfl ?_)
  all_goals (refine finS ?_; exact ⟨by simp [within]; omega, rfl⟩)

theorem geo_Flash (a : Int) : Fn Tryz.prog σ 109 #[int a] F (fun v l => v = int (flSize a) ∧ l = F) := by
  refine Fn.of Tryz.func109 rfl Tryz.ntmps109 rfl ?_
  unfold flSize
  by_cases h : 0 ≤ a ∧ a ≤ 64
  all_goals
    have hw : within a 64 = decide (0 ≤ a ∧ a ≤ 64) := rfl
    simp only [h, if_true, if_false, decide_true, decide_false] at hw ⊢
    repeat' (first | (first | (apply JO.ru; exact rfl; exact rfl; exact rfl; (first | (apply Ru.move; exact rfl) | (apply Ru.loadN; exact rfl; (repeat (first | exact Pick.here | apply Pick.there)); exact rfl) | (apply Ru.load; exact rfl; (repeat (first | exact Pick.here | apply Pick.there)); exact rfl) | (apply Ru.fieldAddr; exact rfl) | (apply Ru.nilP; exact rfl) | (apply Ru.assign; exact rfl) | (apply Ru.lenS; exact rfl) | (apply Ru.lss; exact rfl; exact rfl; (first | exact decT (by omega) | exact decF (by omega))) | (apply Ru.leq; exact rfl; exact rfl; (first | exact decT (by omega) | exact decF (by omega))) | (apply Ru.gtr; exact rfl; exact rfl; (first | exact decT (by omega) | exact decF (by omega))) | (apply Ru.geq; exact rfl; exact rfl; (first | exact decT (by omega) | exact decF (by omega))) | (apply Ru.eql; exact rfl; exact rfl; (first | exact decT (by omega) | exact decF (by omega))) | (apply Ru.neq; exact rfl; exact rfl; (first | exact ndecF (by omega) | exact ndecT (by omega))) | (apply Ru.add; exact rfl; exact rfl; (first | exact wrapI (by omega) (by omega) | exact rfl)) | (apply Ru.sub; exact rfl; exact rfl; (first | exact wrapI (by omega) (by omega) | exact rfl)) | (apply Ru.mul; exact rfl; exact rfl; (first | exact wrapI (by omega) (by omega) | exact rfl)) | (apply Ru.pickT; exact rfl; exact rfl) | (apply Ru.pickF; exact rfl; exact rfl) | (apply Ru.not; exact rfl) | (apply Ru.extractN; exact rfl; exact rfl) | (apply Ru.extract; exact rfl; exact rfl) | (apply Ru.indexAddr; exact rfl; exact rfl; omega; omega) | (apply Ru.indexAddrA; exact rfl; exact rfl; omega; omega) | (apply Ru.loadAN; exact rfl; (repeat (first | exact Pick.here | apply Pick.there)); exact rfl; exact rfl) | (apply Ru.loadA; exact rfl; (repeat (first | exact Pick.here | apply Pick.there)); exact rfl; exact rfl) | (apply Ru.fieldN; exact rfl; exact rfl) | (apply Ru.field; exact rfl; exact rfl) | (apply Ru.fieldA; exact rfl) | (apply Ru.buildN; exact rfl; exact rfl) | (apply Ru.build; exact rfl; exact rfl) | (apply Ru.buildArr; exact rfl; exact rfl) | (apply Ru.makeFunc; exact rfl; exact rfl) | (apply Ru.eqlPN; exact rfl; exact rfl) | (apply Ru.neqPN; exact rfl; exact rfl) | (apply Ru.eqlSN; exact rfl; exact rfl) | (apply Ru.neqSN; exact rfl; exact rfl) | (apply Ru.quoN; exact rfl; exact rfl; omega; omega; omega) | (apply Ru.remN; exact rfl; exact rfl; omega; omega) | (apply Ru.and; exact rfl; exact rfl) | (apply Ru.or; exact rfl; exact rfl) | (apply Ru.xor; exact rfl; exact rfl) | (apply Ru.andNot; exact rfl; exact rfl) | (apply Ru.shl; exact rfl; exact rfl; decide; exact rfl) | (apply Ru.shr; exact rfl; exact rfl; decide; exact rfl) | (apply Ru.neg; exact rfl; exact rfl) | (apply Ru.com; exact rfl; exact rfl) | (apply Ru.conv; exact rfl; exact rfl) | (apply Ru.sliceS; exact rfl; exact rfl; exact rfl; exact rfl; (first | exact fun _ => rfl | exact fun h => nomatch h); omega; omega; omega))) | refine JC.seq ?_ | refine JC.region ?_ | refine JO.nil ?_ | refine JE.thenN ?_ | refine JE.thenR ?_ | refine JE.thenE ?_ | refine JE.blockN ?_ | refine JE.blockR ?_ | refine JE.blockE ?_ | refine JE.blockO rfl ?_ | refine JC.block ?_ | refine JC.ret ?_ | refine JC.skip ?_ | refine JC.exit ?_ | refine JC.label ?_ | refine JC.condT rfl ?_ | refine JC.condF rfl ?_ | (apply JQ.ru; exact rfl; exact rfl; exact rfl; (first | (apply Ru.move; exact rfl) | (apply Ru.loadN; exact rfl; (repeat (first | exact Pick.here | apply Pick.there)); exact rfl) | (apply Ru.load; exact rfl; (repeat (first | exact Pick.here | apply Pick.there)); exact rfl) | (apply Ru.fieldAddr; exact rfl) | (apply Ru.nilP; exact rfl) | (apply Ru.assign; exact rfl) | (apply Ru.lenS; exact rfl) | (apply Ru.lss; exact rfl; exact rfl; (first | exact decT (by omega) | exact decF (by omega))) | (apply Ru.leq; exact rfl; exact rfl; (first | exact decT (by omega) | exact decF (by omega))) | (apply Ru.gtr; exact rfl; exact rfl; (first | exact decT (by omega) | exact decF (by omega))) | (apply Ru.geq; exact rfl; exact rfl; (first | exact decT (by omega) | exact decF (by omega))) | (apply Ru.eql; exact rfl; exact rfl; (first | exact decT (by omega) | exact decF (by omega))) | (apply Ru.neq; exact rfl; exact rfl; (first | exact ndecF (by omega) | exact ndecT (by omega))) | (apply Ru.add; exact rfl; exact rfl; (first | exact wrapI (by omega) (by omega) | exact rfl)) | (apply Ru.sub; exact rfl; exact rfl; (first | exact wrapI (by omega) (by omega) | exact rfl)) | (apply Ru.mul; exact rfl; exact rfl; (first | exact wrapI (by omega) (by omega) | exact rfl)) | (apply Ru.pickT; exact rfl; exact rfl) | (apply Ru.pickF; exact rfl; exact rfl) | (apply Ru.not; exact rfl) | (apply Ru.extractN; exact rfl; exact rfl) | (apply Ru.extract; exact rfl; exact rfl) | (apply Ru.indexAddr; exact rfl; exact rfl; omega; omega) | (apply Ru.indexAddrA; exact rfl; exact rfl; omega; omega) | (apply Ru.loadAN; exact rfl; (repeat (first | exact Pick.here | apply Pick.there)); exact rfl; exact rfl) | (apply Ru.loadA; exact rfl; (repeat (first | exact Pick.here | apply Pick.there)); exact rfl; exact rfl) | (apply Ru.fieldN; exact rfl; exact rfl) | (apply Ru.field; exact rfl; exact rfl) | (apply Ru.fieldA; exact rfl) | (apply Ru.buildN; exact rfl; exact rfl) | (apply Ru.build; exact rfl; exact rfl) | (apply Ru.buildArr; exact rfl; exact rfl) | (apply Ru.makeFunc; exact rfl; exact rfl) | (apply Ru.eqlPN; exact rfl; exact rfl) | (apply Ru.neqPN; exact rfl; exact rfl) | (apply Ru.eqlSN; exact rfl; exact rfl) | (apply Ru.neqSN; exact rfl; exact rfl) | (apply Ru.quoN; exact rfl; exact rfl; omega; omega; omega) | (apply Ru.remN; exact rfl; exact rfl; omega; omega) | (apply Ru.and; exact rfl; exact rfl) | (apply Ru.or; exact rfl; exact rfl) | (apply Ru.xor; exact rfl; exact rfl) | (apply Ru.andNot; exact rfl; exact rfl) | (apply Ru.shl; exact rfl; exact rfl; decide; exact rfl) | (apply Ru.shr; exact rfl; exact rfl; decide; exact rfl) | (apply Ru.neg; exact rfl; exact rfl) | (apply Ru.com; exact rfl; exact rfl) | (apply Ru.conv; exact rfl; exact rfl) | (apply Ru.sliceS; exact rfl; exact rfl; exact rfl; exact rfl; (first | exact fun _ => rfl | exact fun h => nomatch h); omega; omega; omega))) | (apply JO.split; exact rfl; exact rfl; exact rfl; (first | (apply Ru.lss; exact rfl; exact rfl; exact rfl) | (apply Ru.leq; exact rfl; exact rfl; exact rfl) | (apply Ru.gtr; exact rfl; exact rfl; exact rfl) | (apply Ru.geq; exact rfl; exact rfl; exact rfl) | (apply Ru.eql; exact rfl; exact rfl; exact rfl)); all_goals intro _) | (apply JO.splitN; exact rfl; exact rfl; exact rfl; (apply Ru.neq; exact rfl; exact rfl; exact rfl); all_goals intro _) | (apply JQ.split; exact rfl; exact rfl; exact rfl; (first | (apply Ru.lss; exact rfl; exact rfl; exact rfl) | (apply Ru.leq; exact rfl; exact rfl; exact rfl) | (apply Ru.gtr; exact rfl; exact rfl; exact rfl) | (apply Ru.geq; exact rfl; exact rfl; exact rfl) | (apply Ru.eql; exact rfl; exact rfl; exact rfl)); all_goals intro _) | (apply JQ.splitN; exact rfl; exact rfl; exact rfl; (apply Ru.neq; exact rfl; exact rfl; exact rfl); all_goals intro _) | refine JO.guardF rfl rfl rfl rfl rfl rfl rfl ?_ | refine JO.guardF0 rfl rfl rfl rfl rfl rfl ?_ | refine JO.guardT rfl rfl rfl rfl ?_ | refine JQ.skip rfl rfl rfl ?_ | refine JQ.nil ?_ | (apply JO.do; exact rfl; exact rfl; exact rfl; (first | (apply Do.allocN; exact rfl) | apply Do.alloc); rintro _ _ ⟨_, rfl, rfl⟩) | (apply JO.do; exact rfl; exact rfl; exact rfl; (first | (apply Do.boxN; exact rfl; exact rfl) | (apply Do.box; exact rfl)); rintro _ _ ⟨_, rfl, rfl⟩) | (apply JO.do; exact rfl; exact rfl; exact rfl; (first | (apply Do.buildSliceN; exact rfl; exact rfl; exact rfl; exact rfl) | (apply Do.buildSlice; exact rfl; exact rfl; exact rfl; exact rfl)); rintro _ _ ⟨_, rfl, rfl⟩) | (apply JO.do; exact rfl; exact rfl; exact rfl; apply Do.makeMap; rintro _ _ ⟨_, rfl, rfl⟩) | (apply JO.do0; exact rfl; exact rfl; (first | (apply Do.storeN; exact rfl; exact rfl; exact rfl; (repeat (first | exact Pick.here | apply Pick.there)); exact rfl; exact rfl) | (apply Do.store; exact rfl; exact rfl; exact rfl; (repeat (first | exact Pick.here | apply Pick.there)); exact rfl)); rintro _ _ ⟨rfl, rfl⟩) | (apply JO.do0; exact rfl; exact rfl; (first | (apply Do.storeAN; exact rfl; exact rfl; (repeat (first | exact Pick.here | apply Pick.there)); exact rfl; exact rfl; exact rfl; exact rfl) | (apply Do.storeA; exact rfl; exact rfl; (repeat (first | exact Pick.here | apply Pick.there)); exact rfl; exact rfl; exact rfl)); rintro _ _ ⟨rfl, rfl⟩) | refine JC.regionQ mixed (by decide +kernel) ?_ | (apply JE.done1; exact rfl; (first | (apply Res.tmp; exact rfl) | (apply Res.cell; exact rfl; (repeat (first | exact Pick.here | apply Pick.there)); exact rfl) | (apply Res.cellAN; exact rfl; (repeat (first | exact Pick.here | apply Pick.there)); exact rfl; exact rfl) | (apply Res.cellA; exact rfl; (repeat (first | exact Pick.here | apply Pick.there)); exact rfl; exact rfl))) | (apply JE.done2; exact rfl; (first | (apply Res.tmp; exact rfl) | (apply Res.cell; exact rfl; (repeat (first | exact Pick.here | apply Pick.there)); exact rfl) | (apply Res.cellAN; exact rfl; (repeat (first | exact Pick.here | apply Pick.there)); exact rfl; exact rfl) | (apply Res.cellA; exact rfl; (repeat (first | exact Pick.here | apply Pick.there)); exact rfl; exact rfl)); (first | (apply Res.tmp; exact rfl) | (apply Res.cell; exact rfl; (repeat (first | exact Pick.here | apply Pick.there)); exact rfl) | (apply Res.cellAN; exact rfl; (repeat (first | exact Pick.here | apply Pick.there)); exact rfl; exact rfl) | (apply Res.cellA; exact rfl; (repeat (first | exact Pick.here | apply Pick.there)); exact rfl; exact rfl))) | refine JE.done0 rfl ?_) | ((first | (apply JO.do; exact rfl; exact rfl; exact rfl; (apply Do.call; exact rfl; exact geo_within _ _); rintro _ _ ⟨rfl, hq⟩; obtain rfl := hq.symm) | (apply JQ.call; exact rfl; exact rfl; exact rfl; exact geo_within _ _; (rintro _ _ ⟨rfl, rfl⟩; exact ⟨rfl, rfl⟩))); rw [hw]))
    all_goals (refine finS ?_; exact ⟨rfl, rfl⟩)

theorem geo_Sram (a : Int) : Fn Tryz.prog σ 110 #[int a] F (fun v l => v = int (srSize a) ∧ l = F) := by
  refine Fn.of Tryz.func110 rfl Tryz.ntmps110 rfl ?_
  unfold srSize
  by_cases h : 0 ≤ a ∧ a ≤ 128
  all_goals
    have hw : within a 128 = decide (0 ≤ a ∧ a ≤ 128) := rfl
    simp only [h, if_true, if_false, decide_true, decide_false] at hw ⊢
    repeat' (first | (first | (apply JO.ru; exact rfl; exact rfl; exact rfl; (first | (apply Ru.move; exact rfl) | (apply Ru.loadN; exact rfl; (repeat (first | exact Pick.here | apply Pick.there)); exact rfl) | (apply Ru.load; exact rfl; (repeat (first | exact Pick.here | apply Pick.there)); exact rfl) | (apply Ru.fieldAddr; exact rfl) | (apply Ru.nilP; exact rfl) | (apply Ru.assign; exact rfl) | (apply Ru.lenS; exact rfl) | (apply Ru.lss; exact rfl; exact rfl; (first | exact decT (by omega) | exact decF (by omega))) | (apply Ru.leq; exact rfl; exact rfl; (first | exact decT (by omega) | exact decF (by omega))) | (apply Ru.gtr; exact rfl; exact rfl; (first | exact decT (by omega) | exact decF (by omega))) | (apply Ru.geq; exact rfl; exact rfl; (first | exact decT (by omega) | exact decF (by omega))) | (apply Ru.eql; exact rfl; exact rfl; (first | exact decT (by omega) | exact decF (by omega))) | (apply Ru.neq; exact rfl; exact rfl; (first | exact ndecF (by omega) | exact ndecT (by omega))) | (apply Ru.add; exact rfl; exact rfl; (first | exact wrapI (by omega) (by omega) | exact rfl)) | (apply Ru.sub; exact rfl; exact rfl; (first | exact wrapI (by omega) (by omega) | exact rfl)) | (apply Ru.mul; exact rfl; exact rfl; (first | exact wrapI (by omega) (by omega) | exact rfl)) | (apply Ru.pickT; exact rfl; exact rfl) | (apply Ru.pickF; exact rfl; exact rfl) | (apply Ru.not; exact rfl) | (apply Ru.extractN; exact rfl; exact rfl) | (apply Ru.extract; exact rfl; exact rfl) | (apply Ru.indexAddr; exact rfl; exact rfl; omega; omega) | (apply Ru.indexAddrA; exact rfl; exact rfl; omega; omega) | (apply Ru.loadAN; exact rfl; (repeat (first | exact Pick.here | apply Pick.there)); exact rfl; exact rfl) | (apply Ru.loadA; exact rfl; (repeat (first | exact Pick.here | apply Pick.there)); exact rfl; exact rfl) | (apply Ru.fieldN; exact rfl; exact rfl) | (apply Ru.field; exact rfl; exact rfl) | (apply Ru.fieldA; exact rfl) | (apply Ru.buildN; exact rfl; exact rfl) | (apply Ru.build; exact rfl; exact rfl) | (apply Ru.buildArr; exact rfl; exact rfl) | (apply Ru.makeFunc; exact rfl; exact rfl) | (apply Ru.eqlPN; exact rfl; exact rfl) | (apply Ru.neqPN; exact rfl; exact rfl) | (apply Ru.eqlSN; exact rfl; exact rfl) | (apply Ru.neqSN; exact rfl; exact rfl) | (apply Ru.quoN; exact rfl; exact rfl; omega; omega; omega) | (apply Ru.remN; exact rfl; exact rfl; omega; omega) | (apply Ru.and; exact rfl; exact rfl) | (apply Ru.or; exact rfl; exact rfl) | (apply Ru.xor; exact rfl; exact rfl) | (apply Ru.andNot; exact rfl; exact rfl) | (apply Ru.shl; exact rfl; exact rfl; decide; exact rfl) | (apply Ru.shr; exact rfl; exact rfl; decide; exact rfl) | (apply Ru.neg; exact rfl; exact rfl) | (apply Ru.com; exact rfl; exact rfl) | (apply Ru.conv; exact rfl; exact rfl) | (apply Ru.sliceS; exact rfl; exact rfl; exact rfl; exact rfl; (first | exact fun _ => rfl | exact fun h => nomatch h); omega; omega; omega))) | refine JC.seq ?_ | refine JC.region ?_ | refine JO.nil ?_ | refine JE.thenN ?_ | refine JE.thenR ?_ | refine JE.thenE ?_ | refine JE.blockN ?_ | refine JE.blockR ?_ | refine JE.blockE ?_ | refine JE.blockO rfl ?_ | refine JC.block ?_ | refine JC.ret ?_ | refine JC.skip ?_ | refine JC.exit ?_ | refine JC.label ?_ | refine JC.condT rfl ?_ | refine JC.condF rfl ?_ | (apply JQ.ru; exact rfl; exact rfl; exact rfl; (first | (apply Ru.move; exact rfl) | (apply Ru.loadN; exact rfl; (repeat (first | exact Pick.here | apply Pick.there)); exact rfl) | (apply Ru.load; exact rfl; (repeat (first | exact Pick.here | apply Pick.there)); exact rfl) | (apply Ru.fieldAddr; exact rfl) | (apply Ru.nilP; exact rfl) | (apply Ru.assign; exact rfl) | (apply Ru.lenS; exact rfl) | (apply Ru.lss; exact rfl; exact rfl; (first | exact decT (by omega) | exact decF (by omega))) | (apply Ru.leq; exact rfl; exact rfl; (first | exact decT (by omega) | exact decF (by omega))) | (apply Ru.gtr; exact rfl; exact rfl; (first | exact decT (by omega) | exact decF (by omega))) | (apply Ru.geq; exact rfl; exact rfl; (first | exact decT (by omega) | exact decF (by omega))) | (apply Ru.eql; exact rfl; exact rfl; (first | exact decT (by omega) | exact decF (by omega))) | (apply Ru.neq; exact rfl; exact rfl; (first | exact ndecF (by omega) | exact ndecT (by omega))) | (apply Ru.add; exact rfl; exact rfl; (first | exact wrapI (by omega) (by omega) | exact rfl)) | (apply Ru.sub; exact rfl; exact rfl; (first | exact wrapI (by omega) (by omega) | exact rfl)) | (apply Ru.mul; exact rfl; exact rfl; (first | exact wrapI (by omega) (by omega) | exact rfl)) | (apply Ru.pickT; exact rfl; exact rfl) | (apply Ru.pickF; exact rfl; exact rfl) | (apply Ru.not; exact rfl) | (apply Ru.extractN; exact rfl; exact rfl) | (apply Ru.extract; exact rfl; exact rfl) | (apply Ru.indexAddr; exact rfl; exact rfl; omega; omega) | (apply Ru.indexAddrA; exact rfl; exact rfl; omega; omega) | (apply Ru.loadAN; exact rfl; (repeat (first | exact Pick.here | apply Pick.there)); exact rfl; exact rfl) | (apply Ru.loadA; exact rfl; (repeat (first | exact Pick.here | apply Pick.there)); exact rfl; exact rfl) | (apply Ru.fieldN; exact rfl; exact rfl) | (apply Ru.field; exact rfl; exact rfl) | (apply Ru.fieldA; exact rfl) | (apply Ru.buildN; exact rfl; exact rfl) | (apply Ru.build; exact rfl; exact rfl) | (apply Ru.buildArr; exact rfl; exact rfl) | (apply Ru.makeFunc; exact rfl; exact rfl) | (apply Ru.eqlPN; exact rfl; exact rfl) | (apply Ru.neqPN; exact rfl; exact rfl) | (apply Ru.eqlSN; exact rfl; exact rfl) | (apply Ru.neqSN; exact rfl; exact rfl) | (apply Ru.quoN; exact rfl; exact rfl; omega; omega; omega) | (apply Ru.remN; exact rfl; exact rfl; omega; omega) | (apply Ru.and; exact rfl; exact rfl) | (apply Ru.or; exact rfl; exact rfl) | (apply Ru.xor; exact rfl; exact rfl) | (apply Ru.andNot; exact rfl; exact rfl) | (apply Ru.shl; exact rfl; exact rfl; decide; exact rfl) | (apply Ru.shr; exact rfl; exact rfl; decide; exact rfl) | (apply Ru.neg; exact rfl; exact rfl) | (apply Ru.com; exact rfl; exact rfl) | (apply Ru.conv; exact rfl; exact rfl) | (apply Ru.sliceS; exact rfl; exact rfl; exact rfl; exact rfl; (first | exact fun _ => rfl | exact fun h => nomatch h); omega; omega; omega))) | (apply JO.split; exact rfl; exact rfl; exact rfl; (first | (apply Ru.lss; exact rfl; exact rfl; exact rfl) | (apply Ru.leq; exact rfl; exact rfl; exact rfl) | (apply Ru.gtr; exact rfl; exact rfl; exact rfl) | (apply Ru.geq; exact rfl; exact rfl; exact rfl) | (apply Ru.eql; exact rfl; exact rfl; exact rfl)); all_goals intro _) | (apply JO.splitN; exact rfl; exact rfl; exact rfl; (apply Ru.neq; exact rfl; exact rfl; exact rfl); all_goals intro _) | (apply JQ.split; exact rfl; exact rfl; exact rfl; (first | (apply Ru.lss; exact rfl; exact rfl; exact rfl) | (apply Ru.leq; exact rfl; exact rfl; exact rfl) | (apply Ru.gtr; exact rfl; exact rfl; exact rfl) | (apply Ru.geq; exact rfl; exact rfl; exact rfl) | (apply Ru.eql; exact rfl; exact rfl; exact rfl)); all_goals intro _) | (apply JQ.splitN; exact rfl; exact rfl; exact rfl; (apply Ru.neq; exact rfl; exact rfl; exact rfl); all_goals intro _) | refine JO.guardF rfl rfl rfl rfl rfl rfl rfl ?_ | refine JO.guardF0 rfl rfl rfl rfl rfl rfl ?_ | refine JO.guardT rfl rfl rfl rfl ?_ | refine JQ.skip rfl rfl rfl ?_ | refine JQ.nil ?_ | (apply JO.do; exact rfl; exact rfl; exact rfl; (first | (apply Do.allocN; exact rfl) | apply Do.alloc); rintro _ _ ⟨_, rfl, rfl⟩) | (apply JO.do; exact rfl; exact rfl; exact rfl; (first | (apply Do.boxN; exact rfl; exact rfl) | (apply Do.box; exact rfl)); rintro _ _ ⟨_, rfl, rfl⟩) | (apply JO.do; exact rfl; exact rfl; exact rfl; (first | (apply Do.buildSliceN; exact rfl; exact rfl; exact rfl; exact rfl) | (apply Do.buildSlice; exact rfl; exact rfl; exact rfl; exact rfl)); rintro _ _ ⟨_, rfl, rfl⟩) | (apply JO.do; exact rfl; exact rfl; exact rfl; apply Do.makeMap; rintro _ _ ⟨_, rfl, rfl⟩) | (apply JO.do0; exact rfl; exact rfl; (first | (apply Do.storeN; exact rfl; exact rfl; exact rfl; (repeat (first | exact Pick.here | apply Pick.there)); exact rfl; exact rfl) | (apply Do.store; exact rfl; exact rfl; exact rfl; (repeat (first | exact Pick.here | apply Pick.there)); exact rfl)); rintro _ _ ⟨rfl, rfl⟩) | (apply JO.do0; exact rfl; exact rfl; (first | (apply Do.storeAN; exact rfl; exact rfl; (repeat (first | exact Pick.here | apply Pick.there)); exact rfl; exact rfl; exact rfl; exact rfl) | (apply Do.storeA; exact rfl; exact rfl; (repeat (first | exact Pick.here | apply Pick.there)); exact rfl; exact rfl; exact rfl)); rintro _ _ ⟨rfl, rfl⟩) | refine JC.regionQ mixed (by decide +kernel) ?_ | (apply JE.done1; exact rfl; (first | (apply Res.tmp; exact rfl) | (apply Res.cell; exact rfl; (repeat (first | exact Pick.here | apply Pick.there)); exact rfl) | (apply Res.cellAN; exact rfl; (repeat (first | exact Pick.here | apply Pick.there)); exact rfl; exact rfl) | (apply Res.cellA; exact rfl; (repeat (first | exact Pick.here | apply Pick.there)); exact rfl; exact rfl))) | (apply JE.done2; exact rfl; (first | (apply Res.tmp; exact rfl) | (apply Res.cell; exact rfl; (repeat (first | exact Pick.here | apply Pick.there)); exact rfl) | (apply Res.cellAN; exact rfl; (repeat (first | exact Pick.here | apply Pick.there)); exact rfl; exact rfl) | (apply Res.cellA; exact rfl; (repeat (first | exact Pick.here | apply Pick.there)); exact rfl; exact rfl)); (first | (apply Res.tmp; exact rfl) | (apply Res.cell; exact rfl; (repeat (first | exact Pick.here | apply Pick.there)); exact rfl) | (apply Res.cellAN; exact rfl; (repeat (first | exact Pick.here | apply Pick.there)); exact rfl; exact rfl) | (apply Res.cellA; exact rfl; (repeat (first | exact Pick.here | apply Pick.there)); exact rfl; exact rfl))) | refine JE.done0 rfl ?_) | ((first | (apply JO.do; exact rfl; exact rfl; exact rfl; (apply Do.call; exact rfl; exact geo_within _ _); rintro _ _ ⟨rfl, hq⟩; obtain rfl := hq.symm) | (apply JQ.call; exact rfl; exact rfl; exact rfl; exact geo_within _ _; (rintro _ _ ⟨rfl, rfl⟩; exact ⟨rfl, rfl⟩))); rw [hw]))
    all_goals (refine finS ?_; exact ⟨rfl, rfl⟩)

/-- A kind's row. -/
def rw4 (k : Int) (j : Nat) : Int := ([0, 0, 0, 0, 7, 3, 1, 0, 8, 3, 1, 0, 9, 4, 1, 1, 10, 4, 1, 2, 11, 4, 1, 3, 12, 5, 2, 0, 13, 5, 2, 0, 14, 6, 2, 0, 15, 6, 2, 0, 16, 7, 2, 0] : List Int).getD (k.toNat * 4 + j) 0
theorem ten {p : Int → Prop} {k : Int} (h : 1 ≤ k ∧ k ≤ 10) (h1 : p 1) (h2 : p 2) (h3 : p 3) (h4 : p 4) (h5 : p 5) (h6 : p 6) (h7 : p 7) (h8 : p 8) (h9 : p 9) (h10 : p 10) : p k := by
  have hk : k = 1 ∨ k = 2 ∨ k = 3 ∨ k = 4 ∨ k = 5 ∨ k = 6 ∨ k = 7 ∨ k = 8 ∨ k = 9 ∨ k = 10 := by omega
  rcases hk with rfl | rfl | rfl | rfl | rfl | rfl | rfl | rfl | rfl | rfl <;> assumption
theorem rw4_row {k : Int} (h : 1 ≤ k ∧ k ≤ 10) : (rowsC.drop (0 + k.toNat * 4)).take 4 = [int (rw4 k 0), int (rw4 k 1), int (rw4 k 2), int (rw4 k 3)] :=
  ten (p := fun k => (rowsC.drop (0 + k.toNat * 4)).take 4 = [int (rw4 k 0), int (rw4 k 1), int (rw4 k 2), int (rw4 k 3)]) h rfl rfl rfl rfl rfl rfl rfl rfl rfl rfl
theorem rw4_pow {k : Int} (h : 1 ≤ k ∧ k ≤ 10) : 0 ≤ rw4 k 0 ∧ IntKind.i64.wrap (1 * 2 ^ min (rw4 k 0).toNat IntKind.i64.bits) = epSize k :=
  ten (p := fun k => 0 ≤ rw4 k 0 ∧ IntKind.i64.wrap (1 * 2 ^ min (rw4 k 0).toNat IntKind.i64.bits) = epSize k) h (by decide +kernel) (by decide +kernel) (by decide +kernel) (by decide +kernel) (by decide +kernel) (by decide +kernel) (by decide +kernel) (by decide +kernel) (by decide +kernel) (by decide +kernel)

end Go.Sep
namespace Go.Sep
open Go Go.Proofs
attribute [local irreducible] JO JC JE JA JQ JB JI Mid Inv Weak ownS Ru Do Fn Sat Pick Take arr pt star ex Holds bodyPost Post Exit.then Exit.inBlock Res
variable {σ : Sig} {F : List HP}
set_option maxHeartbeats 1000000 in
theorem geo_row (k : Int) [hg : InG F] : Fn Tryz.prog σ 142 #[int k] F (fun v l => (if 1 ≤ k ∧ k ≤ 10 then v = .tuple #[.agg #[int (rw4 k 0), int (rw4 k 1), int (rw4 k 2), int (rw4 k 3)], .bool true] else v = .tuple #[.agg #[int 0, int 0, int 0, int 0], .bool false]) ∧ l = F) := by
  obtain ⟨E, r, hg⟩ := hg.h
  refine Fn.of Tryz.func142 rfl Tryz.ntmps142 rfl ?_
  by_cases h : 1 ≤ k ∧ k ≤ 10
  · have hw : within k 10 = true := by simp [within]; omega
    simp only [h, if_true, and_self]
    repeat' (first | (first | (apply JO.ru; exact rfl; exact rfl; exact rfl; (first | (apply Ru.move; exact rfl) | (apply Ru.loadN; exact rfl; (repeat (first | exact Pick.here | apply Pick.there)); exact rfl) | (apply Ru.load; exact rfl; (repeat (first | exact Pick.here | apply Pick.there)); exact rfl) | (apply Ru.fieldAddr; exact rfl) | (apply Ru.nilP; exact rfl) | (apply Ru.assign; exact rfl) | (apply Ru.lenS; exact rfl) | (apply Ru.lss; exact rfl; exact rfl; (first | exact decT (by omega) | exact decF (by omega))) | (apply Ru.leq; exact rfl; exact rfl; (first | exact decT (by omega) | exact decF (by omega))) | (apply Ru.gtr; exact rfl; exact rfl; (first | exact decT (by omega) | exact decF (by omega))) | (apply Ru.geq; exact rfl; exact rfl; (first | exact decT (by omega) | exact decF (by omega))) | (apply Ru.eql; exact rfl; exact rfl; (first | exact decT (by omega) | exact decF (by omega))) | (apply Ru.neq; exact rfl; exact rfl; (first | exact ndecF (by omega) | exact ndecT (by omega))) | (apply Ru.add; exact rfl; exact rfl; (first | exact wrapI (by omega) (by omega) | exact rfl)) | (apply Ru.sub; exact rfl; exact rfl; (first | exact wrapI (by omega) (by omega) | exact rfl)) | (apply Ru.mul; exact rfl; exact rfl; (first | exact wrapI (by omega) (by omega) | exact rfl)) | (apply Ru.pickT; exact rfl; exact rfl) | (apply Ru.pickF; exact rfl; exact rfl) | (apply Ru.not; exact rfl) | (apply Ru.extractN; exact rfl; exact rfl) | (apply Ru.extract; exact rfl; exact rfl) | (apply Ru.indexAddr; exact rfl; exact rfl; omega; omega) | (apply Ru.indexAddrA; exact rfl; exact rfl; omega; omega) | (apply Ru.loadAN; exact rfl; (repeat (first | exact Pick.here | apply Pick.there)); exact rfl; exact rfl) | (apply Ru.loadA; exact rfl; (repeat (first | exact Pick.here | apply Pick.there)); exact rfl; exact rfl) | (apply Ru.fieldN; exact rfl; exact rfl) | (apply Ru.field; exact rfl; exact rfl) | (apply Ru.fieldA; exact rfl) | (apply Ru.buildN; exact rfl; exact rfl) | (apply Ru.build; exact rfl; exact rfl) | (apply Ru.buildArr; exact rfl; exact rfl) | (apply Ru.makeFunc; exact rfl; exact rfl) | (apply Ru.eqlPN; exact rfl; exact rfl) | (apply Ru.neqPN; exact rfl; exact rfl) | (apply Ru.eqlSN; exact rfl; exact rfl) | (apply Ru.neqSN; exact rfl; exact rfl) | (apply Ru.quoN; exact rfl; exact rfl; omega; omega; omega) | (apply Ru.remN; exact rfl; exact rfl; omega; omega) | (apply Ru.and; exact rfl; exact rfl) | (apply Ru.or; exact rfl; exact rfl) | (apply Ru.xor; exact rfl; exact rfl) | (apply Ru.andNot; exact rfl; exact rfl) | (apply Ru.shl; exact rfl; exact rfl; decide; exact rfl) | (apply Ru.shr; exact rfl; exact rfl; decide; exact rfl) | (apply Ru.neg; exact rfl; exact rfl) | (apply Ru.com; exact rfl; exact rfl) | (apply Ru.conv; exact rfl; exact rfl) | (apply Ru.sliceS; exact rfl; exact rfl; exact rfl; exact rfl; (first | exact fun _ => rfl | exact fun h => nomatch h); omega; omega; omega))) | refine JC.seq ?_ | refine JC.region ?_ | refine JO.nil ?_ | refine JE.thenN ?_ | refine JE.thenR ?_ | refine JE.thenE ?_ | refine JE.blockN ?_ | refine JE.blockR ?_ | refine JE.blockE ?_ | refine JE.blockO rfl ?_ | refine JC.block ?_ | refine JC.ret ?_ | refine JC.skip ?_ | refine JC.exit ?_ | refine JC.label ?_ | refine JC.condT rfl ?_ | refine JC.condF rfl ?_ | (apply JQ.ru; exact rfl; exact rfl; exact rfl; (first | (apply Ru.move; exact rfl) | (apply Ru.loadN; exact rfl; (repeat (first | exact Pick.here | apply Pick.there)); exact rfl) | (apply Ru.load; exact rfl; (repeat (first | exact Pick.here | apply Pick.there)); exact rfl) | (apply Ru.fieldAddr; exact rfl) | (apply Ru.nilP; exact rfl) | (apply Ru.assign; exact rfl) | (apply Ru.lenS; exact rfl) | (apply Ru.lss; exact rfl; exact rfl; (first | exact decT (by omega) | exact decF (by omega))) | (apply Ru.leq; exact rfl; exact rfl; (first | exact decT (by omega) | exact decF (by omega))) | (apply Ru.gtr; exact rfl; exact rfl; (first | exact decT (by omega) | exact decF (by omega))) | (apply Ru.geq; exact rfl; exact rfl; (first | exact decT (by omega) | exact decF (by omega))) | (apply Ru.eql; exact rfl; exact rfl; (first | exact decT (by omega) | exact decF (by omega))) | (apply Ru.neq; exact rfl; exact rfl; (first | exact ndecF (by omega) | exact ndecT (by omega))) | (apply Ru.add; exact rfl; exact rfl; (first | exact wrapI (by omega) (by omega) | exact rfl)) | (apply Ru.sub; exact rfl; exact rfl; (first | exact wrapI (by omega) (by omega) | exact rfl)) | (apply Ru.mul; exact rfl; exact rfl; (first | exact wrapI (by omega) (by omega) | exact rfl)) | (apply Ru.pickT; exact rfl; exact rfl) | (apply Ru.pickF; exact rfl; exact rfl) | (apply Ru.not; exact rfl) | (apply Ru.extractN; exact rfl; exact rfl) | (apply Ru.extract; exact rfl; exact rfl) | (apply Ru.indexAddr; exact rfl; exact rfl; omega; omega) | (apply Ru.indexAddrA; exact rfl; exact rfl; omega; omega) | (apply Ru.loadAN; exact rfl; (repeat (first | exact Pick.here | apply Pick.there)); exact rfl; exact rfl) | (apply Ru.loadA; exact rfl; (repeat (first | exact Pick.here | apply Pick.there)); exact rfl; exact rfl) | (apply Ru.fieldN; exact rfl; exact rfl) | (apply Ru.field; exact rfl; exact rfl) | (apply Ru.fieldA; exact rfl) | (apply Ru.buildN; exact rfl; exact rfl) | (apply Ru.build; exact rfl; exact rfl) | (apply Ru.buildArr; exact rfl; exact rfl) | (apply Ru.makeFunc; exact rfl; exact rfl) | (apply Ru.eqlPN; exact rfl; exact rfl) | (apply Ru.neqPN; exact rfl; exact rfl) | (apply Ru.eqlSN; exact rfl; exact rfl) | (apply Ru.neqSN; exact rfl; exact rfl) | (apply Ru.quoN; exact rfl; exact rfl; omega; omega; omega) | (apply Ru.remN; exact rfl; exact rfl; omega; omega) | (apply Ru.and; exact rfl; exact rfl) | (apply Ru.or; exact rfl; exact rfl) | (apply Ru.xor; exact rfl; exact rfl) | (apply Ru.andNot; exact rfl; exact rfl) | (apply Ru.shl; exact rfl; exact rfl; decide; exact rfl) | (apply Ru.shr; exact rfl; exact rfl; decide; exact rfl) | (apply Ru.neg; exact rfl; exact rfl) | (apply Ru.com; exact rfl; exact rfl) | (apply Ru.conv; exact rfl; exact rfl) | (apply Ru.sliceS; exact rfl; exact rfl; exact rfl; exact rfl; (first | exact fun _ => rfl | exact fun h => nomatch h); omega; omega; omega))) | (apply JO.split; exact rfl; exact rfl; exact rfl; (first | (apply Ru.lss; exact rfl; exact rfl; exact rfl) | (apply Ru.leq; exact rfl; exact rfl; exact rfl) | (apply Ru.gtr; exact rfl; exact rfl; exact rfl) | (apply Ru.geq; exact rfl; exact rfl; exact rfl) | (apply Ru.eql; exact rfl; exact rfl; exact rfl)); all_goals intro _) | (apply JO.splitN; exact rfl; exact rfl; exact rfl; (apply Ru.neq; exact rfl; exact rfl; exact rfl); all_goals intro _) | (apply JQ.split; exact rfl; exact rfl; exact rfl; (first | (apply Ru.lss; exact rfl; exact rfl; exact rfl) | (apply Ru.leq; exact rfl; exact rfl; exact rfl) | (apply Ru.gtr; exact rfl; exact rfl; exact rfl) | (apply Ru.geq; exact rfl; exact rfl; exact rfl) | (apply Ru.eql; exact rfl; exact rfl; exact rfl)); all_goals intro _) | (apply JQ.splitN; exact rfl; exact rfl; exact rfl; (apply Ru.neq; exact rfl; exact rfl; exact rfl); all_goals intro _) | refine JO.guardF rfl rfl rfl rfl rfl rfl rfl ?_ | refine JO.guardF0 rfl rfl rfl rfl rfl rfl ?_ | refine JO.guardT rfl rfl rfl rfl ?_ | refine JQ.skip rfl rfl rfl ?_ | refine JQ.nil ?_ | (apply JO.do; exact rfl; exact rfl; exact rfl; (first | (apply Do.allocN; exact rfl) | apply Do.alloc); rintro _ _ ⟨_, rfl, rfl⟩) | (apply JO.do; exact rfl; exact rfl; exact rfl; (first | (apply Do.boxN; exact rfl; exact rfl) | (apply Do.box; exact rfl)); rintro _ _ ⟨_, rfl, rfl⟩) | (apply JO.do; exact rfl; exact rfl; exact rfl; (first | (apply Do.buildSliceN; exact rfl; exact rfl; exact rfl; exact rfl) | (apply Do.buildSlice; exact rfl; exact rfl; exact rfl; exact rfl)); rintro _ _ ⟨_, rfl, rfl⟩) | (apply JO.do; exact rfl; exact rfl; exact rfl; apply Do.makeMap; rintro _ _ ⟨_, rfl, rfl⟩) | (apply JO.do0; exact rfl; exact rfl; (first | (apply Do.storeN; exact rfl; exact rfl; exact rfl; (repeat (first | exact Pick.here | apply Pick.there)); exact rfl; exact rfl) | (apply Do.store; exact rfl; exact rfl; exact rfl; (repeat (first | exact Pick.here | apply Pick.there)); exact rfl)); rintro _ _ ⟨rfl, rfl⟩) | (apply JO.do0; exact rfl; exact rfl; (first | (apply Do.storeAN; exact rfl; exact rfl; (repeat (first | exact Pick.here | apply Pick.there)); exact rfl; exact rfl; exact rfl; exact rfl) | (apply Do.storeA; exact rfl; exact rfl; (repeat (first | exact Pick.here | apply Pick.there)); exact rfl; exact rfl; exact rfl)); rintro _ _ ⟨rfl, rfl⟩) | refine JC.regionQ mixed (by decide +kernel) ?_ | (apply JE.done1; exact rfl; (first | (apply Res.tmp; exact rfl) | (apply Res.cell; exact rfl; (repeat (first | exact Pick.here | apply Pick.there)); exact rfl) | (apply Res.cellAN; exact rfl; (repeat (first | exact Pick.here | apply Pick.there)); exact rfl; exact rfl) | (apply Res.cellA; exact rfl; (repeat (first | exact Pick.here | apply Pick.there)); exact rfl; exact rfl))) | (apply JE.done2; exact rfl; (first | (apply Res.tmp; exact rfl) | (apply Res.cell; exact rfl; (repeat (first | exact Pick.here | apply Pick.there)); exact rfl) | (apply Res.cellAN; exact rfl; (repeat (first | exact Pick.here | apply Pick.there)); exact rfl; exact rfl) | (apply Res.cellA; exact rfl; (repeat (first | exact Pick.here | apply Pick.there)); exact rfl; exact rfl)); (first | (apply Res.tmp; exact rfl) | (apply Res.cell; exact rfl; (repeat (first | exact Pick.here | apply Pick.there)); exact rfl) | (apply Res.cellAN; exact rfl; (repeat (first | exact Pick.here | apply Pick.there)); exact rfl; exact rfl) | (apply Res.cellA; exact rfl; (repeat (first | exact Pick.here | apply Pick.there)); exact rfl; exact rfl))) | refine JE.done0 rfl ?_) | ((first | (apply JO.do; exact rfl; exact rfl; exact rfl; (apply Do.call; exact rfl; exact geo_within _ _); rintro _ _ ⟨rfl, hq⟩; obtain rfl := hq.symm) | (apply JQ.call; exact rfl; exact rfl; exact rfl; exact geo_within _ _; (rintro _ _ ⟨rfl, rfl⟩; exact ⟨rfl, rfl⟩))); rw [hw]))
    refine JO.ru rfl rfl rfl (Ru.heapW (Weak.drop hg) (Ru.loadA rfl Pick.here (by rw [Nat.ble_eq]; have : rowsC.length = 44 := rfl; omega) (rw4_row h))) ?_
    repeat' (first | (apply JO.ru; exact rfl; exact rfl; exact rfl; (first | (apply Ru.move; exact rfl) | (apply Ru.loadN; exact rfl; (repeat (first | exact Pick.here | apply Pick.there)); exact rfl) | (apply Ru.load; exact rfl; (repeat (first | exact Pick.here | apply Pick.there)); exact rfl) | (apply Ru.fieldAddr; exact rfl) | (apply Ru.nilP; exact rfl) | (apply Ru.assign; exact rfl) | (apply Ru.lenS; exact rfl) | (apply Ru.lss; exact rfl; exact rfl; (first | exact decT (by omega) | exact decF (by omega))) | (apply Ru.leq; exact rfl; exact rfl; (first | exact decT (by omega) | exact decF (by omega))) | (apply Ru.gtr; exact rfl; exact rfl; (first | exact decT (by omega) | exact decF (by omega))) | (apply Ru.geq; exact rfl; exact rfl; (first | exact decT (by omega) | exact decF (by omega))) | (apply Ru.eql; exact rfl; exact rfl; (first | exact decT (by omega) | exact decF (by omega))) | (apply Ru.neq; exact rfl; exact rfl; (first | exact ndecF (by omega) | exact ndecT (by omega))) | (apply Ru.add; exact rfl; exact rfl; (first | exact wrapI (by omega) (by omega) | exact rfl)) | (apply Ru.sub; exact rfl; exact rfl; (first | exact wrapI (by omega) (by omega) | exact rfl)) | (apply Ru.mul; exact rfl; exact rfl; (first | exact wrapI (by omega) (by omega) | exact rfl)) | (apply Ru.pickT; exact rfl; exact rfl) | (apply Ru.pickF; exact rfl; exact rfl) | (apply Ru.not; exact rfl) | (apply Ru.extractN; exact rfl; exact rfl) | (apply Ru.extract; exact rfl; exact rfl) | (apply Ru.indexAddr; exact rfl; exact rfl; omega; omega) | (apply Ru.indexAddrA; exact rfl; exact rfl; omega; omega) | (apply Ru.loadAN; exact rfl; (repeat (first | exact Pick.here | apply Pick.there)); exact rfl; exact rfl) | (apply Ru.loadA; exact rfl; (repeat (first | exact Pick.here | apply Pick.there)); exact rfl; exact rfl) | (apply Ru.fieldN; exact rfl; exact rfl) | (apply Ru.field; exact rfl; exact rfl) | (apply Ru.fieldA; exact rfl) | (apply Ru.buildN; exact rfl; exact rfl) | (apply Ru.build; exact rfl; exact rfl) | (apply Ru.buildArr; exact rfl; exact rfl) | (apply Ru.makeFunc; exact rfl; exact rfl) | (apply Ru.eqlPN; exact rfl; exact rfl) | (apply Ru.neqPN; exact rfl; exact rfl) | (apply Ru.eqlSN; exact rfl; exact rfl) | (apply Ru.neqSN; exact rfl; exact rfl) | (apply Ru.quoN; exact rfl; exact rfl; omega; omega; omega) | (apply Ru.remN; exact rfl; exact rfl; omega; omega) | (apply Ru.and; exact rfl; exact rfl) | (apply Ru.or; exact rfl; exact rfl) | (apply Ru.xor; exact rfl; exact rfl) | (apply Ru.andNot; exact rfl; exact rfl) | (apply Ru.shl; exact rfl; exact rfl; decide; exact rfl) | (apply Ru.shr; exact rfl; exact rfl; decide; exact rfl) | (apply Ru.neg; exact rfl; exact rfl) | (apply Ru.com; exact rfl; exact rfl) | (apply Ru.conv; exact rfl; exact rfl) | (apply Ru.sliceS; exact rfl; exact rfl; exact rfl; exact rfl; (first | exact fun _ => rfl | exact fun h => nomatch h); omega; omega; omega))) | refine JC.seq ?_ | refine JC.region ?_ | refine JO.nil ?_ | refine JE.thenN ?_ | refine JE.thenR ?_ | refine JE.thenE ?_ | refine JE.blockN ?_ | refine JE.blockR ?_ | refine JE.blockE ?_ | refine JE.blockO rfl ?_ | refine JC.block ?_ | refine JC.ret ?_ | refine JC.skip ?_ | refine JC.exit ?_ | refine JC.label ?_ | refine JC.condT rfl ?_ | refine JC.condF rfl ?_ | (apply JQ.ru; exact rfl; exact rfl; exact rfl; (first | (apply Ru.move; exact rfl) | (apply Ru.loadN; exact rfl; (repeat (first | exact Pick.here | apply Pick.there)); exact rfl) | (apply Ru.load; exact rfl; (repeat (first | exact Pick.here | apply Pick.there)); exact rfl) | (apply Ru.fieldAddr; exact rfl) | (apply Ru.nilP; exact rfl) | (apply Ru.assign; exact rfl) | (apply Ru.lenS; exact rfl) | (apply Ru.lss; exact rfl; exact rfl; (first | exact decT (by omega) | exact decF (by omega))) | (apply Ru.leq; exact rfl; exact rfl; (first | exact decT (by omega) | exact decF (by omega))) | (apply Ru.gtr; exact rfl; exact rfl; (first | exact decT (by omega) | exact decF (by omega))) | (apply Ru.geq; exact rfl; exact rfl; (first | exact decT (by omega) | exact decF (by omega))) | (apply Ru.eql; exact rfl; exact rfl; (first | exact decT (by omega) | exact decF (by omega))) | (apply Ru.neq; exact rfl; exact rfl; (first | exact ndecF (by omega) | exact ndecT (by omega))) | (apply Ru.add; exact rfl; exact rfl; (first | exact wrapI (by omega) (by omega) | exact rfl)) | (apply Ru.sub; exact rfl; exact rfl; (first | exact wrapI (by omega) (by omega) | exact rfl)) | (apply Ru.mul; exact rfl; exact rfl; (first | exact wrapI (by omega) (by omega) | exact rfl)) | (apply Ru.pickT; exact rfl; exact rfl) | (apply Ru.pickF; exact rfl; exact rfl) | (apply Ru.not; exact rfl) | (apply Ru.extractN; exact rfl; exact rfl) | (apply Ru.extract; exact rfl; exact rfl) | (apply Ru.indexAddr; exact rfl; exact rfl; omega; omega) | (apply Ru.indexAddrA; exact rfl; exact rfl; omega; omega) | (apply Ru.loadAN; exact rfl; (repeat (first | exact Pick.here | apply Pick.there)); exact rfl; exact rfl) | (apply Ru.loadA; exact rfl; (repeat (first | exact Pick.here | apply Pick.there)); exact rfl; exact rfl) | (apply Ru.fieldN; exact rfl; exact rfl) | (apply Ru.field; exact rfl; exact rfl) | (apply Ru.fieldA; exact rfl) | (apply Ru.buildN; exact rfl; exact rfl) | (apply Ru.build; exact rfl; exact rfl) | (apply Ru.buildArr; exact rfl; exact rfl) | (apply Ru.makeFunc; exact rfl; exact rfl) | (apply Ru.eqlPN; exact rfl; exact rfl) | (apply Ru.neqPN; exact rfl; exact rfl) | (apply Ru.eqlSN; exact rfl; exact rfl) | (apply Ru.neqSN; exact rfl; exact rfl) | (apply Ru.quoN; exact rfl; exact rfl; omega; omega; omega) | (apply Ru.remN; exact rfl; exact rfl; omega; omega) | (apply Ru.and; exact rfl; exact rfl) | (apply Ru.or; exact rfl; exact rfl) | (apply Ru.xor; exact rfl; exact rfl) | (apply Ru.andNot; exact rfl; exact rfl) | (apply Ru.shl; exact rfl; exact rfl; decide; exact rfl) | (apply Ru.shr; exact rfl; exact rfl; decide; exact rfl) | (apply Ru.neg; exact rfl; exact rfl) | (apply Ru.com; exact rfl; exact rfl) | (apply Ru.conv; exact rfl; exact rfl) | (apply Ru.sliceS; exact rfl; exact rfl; exact rfl; exact rfl; (first | exact fun _ => rfl | exact fun h => nomatch h); omega; omega; omega))) | (apply JO.split; exact rfl; exact rfl; exact rfl; (first | (apply Ru.lss; exact rfl; exact rfl; exact rfl) | (apply Ru.leq; exact rfl; exact rfl; exact rfl) | (apply Ru.gtr; exact rfl; exact rfl; exact rfl) | (apply Ru.geq; exact rfl; exact rfl; exact rfl) | (apply Ru.eql; exact rfl; exact rfl; exact rfl)); all_goals intro _) | (apply JO.splitN; exact rfl; exact rfl; exact rfl; (apply Ru.neq; exact rfl; exact rfl; exact rfl); all_goals intro _) | (apply JQ.split; exact rfl; exact rfl; exact rfl; (first | (apply Ru.lss; exact rfl; exact rfl; exact rfl) | (apply Ru.leq; exact rfl; exact rfl; exact rfl) | (apply Ru.gtr; exact rfl; exact rfl; exact rfl) | (apply Ru.geq; exact rfl; exact rfl; exact rfl) | (apply Ru.eql; exact rfl; exact rfl; exact rfl)); all_goals intro _) | (apply JQ.splitN; exact rfl; exact rfl; exact rfl; (apply Ru.neq; exact rfl; exact rfl; exact rfl); all_goals intro _) | refine JO.guardF rfl rfl rfl rfl rfl rfl rfl ?_ | refine JO.guardF0 rfl rfl rfl rfl rfl rfl ?_ | refine JO.guardT rfl rfl rfl rfl ?_ | refine JQ.skip rfl rfl rfl ?_ | refine JQ.nil ?_ | (apply JO.do; exact rfl; exact rfl; exact rfl; (first | (apply Do.allocN; exact rfl) | apply Do.alloc); rintro _ _ ⟨_, rfl, rfl⟩) | (apply JO.do; exact rfl; exact rfl; exact rfl; (first | (apply Do.boxN; exact rfl; exact rfl) | (apply Do.box; exact rfl)); rintro _ _ ⟨_, rfl, rfl⟩) | (apply JO.do; exact rfl; exact rfl; exact rfl; (first | (apply Do.buildSliceN; exact rfl; exact rfl; exact rfl; exact rfl) | (apply Do.buildSlice; exact rfl; exact rfl; exact rfl; exact rfl)); rintro _ _ ⟨_, rfl, rfl⟩) | (apply JO.do; exact rfl; exact rfl; exact rfl; apply Do.makeMap; rintro _ _ ⟨_, rfl, rfl⟩) | (apply JO.do0; exact rfl; exact rfl; (first | (apply Do.storeN; exact rfl; exact rfl; exact rfl; (repeat (first | exact Pick.here | apply Pick.there)); exact rfl; exact rfl) | (apply Do.store; exact rfl; exact rfl; exact rfl; (repeat (first | exact Pick.here | apply Pick.there)); exact rfl)); rintro _ _ ⟨rfl, rfl⟩) | (apply JO.do0; exact rfl; exact rfl; (first | (apply Do.storeAN; exact rfl; exact rfl; (repeat (first | exact Pick.here | apply Pick.there)); exact rfl; exact rfl; exact rfl; exact rfl) | (apply Do.storeA; exact rfl; exact rfl; (repeat (first | exact Pick.here | apply Pick.there)); exact rfl; exact rfl; exact rfl)); rintro _ _ ⟨rfl, rfl⟩) | refine JC.regionQ mixed (by decide +kernel) ?_ | (apply JE.done1; exact rfl; (first | (apply Res.tmp; exact rfl) | (apply Res.cell; exact rfl; (repeat (first | exact Pick.here | apply Pick.there)); exact rfl) | (apply Res.cellAN; exact rfl; (repeat (first | exact Pick.here | apply Pick.there)); exact rfl; exact rfl) | (apply Res.cellA; exact rfl; (repeat (first | exact Pick.here | apply Pick.there)); exact rfl; exact rfl))) | (apply JE.done2; exact rfl; (first | (apply Res.tmp; exact rfl) | (apply Res.cell; exact rfl; (repeat (first | exact Pick.here | apply Pick.there)); exact rfl) | (apply Res.cellAN; exact rfl; (repeat (first | exact Pick.here | apply Pick.there)); exact rfl; exact rfl) | (apply Res.cellA; exact rfl; (repeat (first | exact Pick.here | apply Pick.there)); exact rfl; exact rfl)); (first | (apply Res.tmp; exact rfl) | (apply Res.cell; exact rfl; (repeat (first | exact Pick.here | apply Pick.there)); exact rfl) | (apply Res.cellAN; exact rfl; (repeat (first | exact Pick.here | apply Pick.there)); exact rfl; exact rfl) | (apply Res.cellA; exact rfl; (repeat (first | exact Pick.here | apply Pick.there)); exact rfl; exact rfl))) | refine JE.done0 rfl ?_)
    refine finD (finS ?_); exact ⟨rfl, rfl⟩
  · simp only [h, if_false]
    by_cases h0 : k = 0
    · subst h0
      repeat' (first | (apply JO.ru; exact rfl; exact rfl; exact rfl; (first | (apply Ru.move; exact rfl) | (apply Ru.loadN; exact rfl; (repeat (first | exact Pick.here | apply Pick.there)); exact rfl) | (apply Ru.load; exact rfl; (repeat (first | exact Pick.here | apply Pick.there)); exact rfl) | (apply Ru.fieldAddr; exact rfl) | (apply Ru.nilP; exact rfl) | (apply Ru.assign; exact rfl) | (apply Ru.lenS; exact rfl) | (apply Ru.lss; exact rfl; exact rfl; (first | exact decT (by omega) | exact decF (by omega))) | (apply Ru.leq; exact rfl; exact rfl; (first | exact decT (by omega) | exact decF (by omega))) | (apply Ru.gtr; exact rfl; exact rfl; (first | exact decT (by omega) | exact decF (by omega))) | (apply Ru.geq; exact rfl; exact rfl; (first | exact decT (by omega) | exact decF (by omega))) | (apply Ru.eql; exact rfl; exact rfl; (first | exact decT (by omega) | exact decF (by omega))) | (apply Ru.neq; exact rfl; exact rfl; (first | exact ndecF (by omega) | exact ndecT (by omega))) | (apply Ru.add; exact rfl; exact rfl; (first | exact wrapI (by omega) (by omega) | exact rfl)) | (apply Ru.sub; exact rfl; exact rfl; (first | exact wrapI (by omega) (by omega) | exact rfl)) | (apply Ru.mul; exact rfl; exact rfl; (first | exact wrapI (by omega) (by omega) | exact rfl)) | (apply Ru.pickT; exact rfl; exact rfl) | (apply Ru.pickF; exact rfl; exact rfl) | (apply Ru.not; exact rfl) | (apply Ru.extractN; exact rfl; exact rfl) | (apply Ru.extract; exact rfl; exact rfl) | (apply Ru.indexAddr; exact rfl; exact rfl; omega; omega) | (apply Ru.indexAddrA; exact rfl; exact rfl; omega; omega) | (apply Ru.loadAN; exact rfl; (repeat (first | exact Pick.here | apply Pick.there)); exact rfl; exact rfl) | (apply Ru.loadA; exact rfl; (repeat (first | exact Pick.here | apply Pick.there)); exact rfl; exact rfl) | (apply Ru.fieldN; exact rfl; exact rfl) | (apply Ru.field; exact rfl; exact rfl) | (apply Ru.fieldA; exact rfl) | (apply Ru.buildN; exact rfl; exact rfl) | (apply Ru.build; exact rfl; exact rfl) | (apply Ru.buildArr; exact rfl; exact rfl) | (apply Ru.makeFunc; exact rfl; exact rfl) | (apply Ru.eqlPN; exact rfl; exact rfl) | (apply Ru.neqPN; exact rfl; exact rfl) | (apply Ru.eqlSN; exact rfl; exact rfl) | (apply Ru.neqSN; exact rfl; exact rfl) | (apply Ru.quoN; exact rfl; exact rfl; omega; omega; omega) | (apply Ru.remN; exact rfl; exact rfl; omega; omega) | (apply Ru.and; exact rfl; exact rfl) | (apply Ru.or; exact rfl; exact rfl) | (apply Ru.xor; exact rfl; exact rfl) | (apply Ru.andNot; exact rfl; exact rfl) | (apply Ru.shl; exact rfl; exact rfl; decide; exact rfl) | (apply Ru.shr; exact rfl; exact rfl; decide; exact rfl) | (apply Ru.neg; exact rfl; exact rfl) | (apply Ru.com; exact rfl; exact rfl) | (apply Ru.conv; exact rfl; exact rfl) | (apply Ru.sliceS; exact rfl; exact rfl; exact rfl; exact rfl; (first | exact fun _ => rfl | exact fun h => nomatch h); omega; omega; omega))) | refine JC.seq ?_ | refine JC.region ?_ | refine JO.nil ?_ | refine JE.thenN ?_ | refine JE.thenR ?_ | refine JE.thenE ?_ | refine JE.blockN ?_ | refine JE.blockR ?_ | refine JE.blockE ?_ | refine JE.blockO rfl ?_ | refine JC.block ?_ | refine JC.ret ?_ | refine JC.skip ?_ | refine JC.exit ?_ | refine JC.label ?_ | refine JC.condT rfl ?_ | refine JC.condF rfl ?_ | (apply JQ.ru; exact rfl; exact rfl; exact rfl; (first | (apply Ru.move; exact rfl) | (apply Ru.loadN; exact rfl; (repeat (first | exact Pick.here | apply Pick.there)); exact rfl) | (apply Ru.load; exact rfl; (repeat (first | exact Pick.here | apply Pick.there)); exact rfl) | (apply Ru.fieldAddr; exact rfl) | (apply Ru.nilP; exact rfl) | (apply Ru.assign; exact rfl) | (apply Ru.lenS; exact rfl) | (apply Ru.lss; exact rfl; exact rfl; (first | exact decT (by omega) | exact decF (by omega))) | (apply Ru.leq; exact rfl; exact rfl; (first | exact decT (by omega) | exact decF (by omega))) | (apply Ru.gtr; exact rfl; exact rfl; (first | exact decT (by omega) | exact decF (by omega))) | (apply Ru.geq; exact rfl; exact rfl; (first | exact decT (by omega) | exact decF (by omega))) | (apply Ru.eql; exact rfl; exact rfl; (first | exact decT (by omega) | exact decF (by omega))) | (apply Ru.neq; exact rfl; exact rfl; (first | exact ndecF (by omega) | exact ndecT (by omega))) | (apply Ru.add; exact rfl; exact rfl; (first | exact wrapI (by omega) (by omega) | exact rfl)) | (apply Ru.sub; exact rfl; exact rfl; (first | exact wrapI (by omega) (by omega) | exact rfl)) | (apply Ru.mul; exact rfl; exact rfl; (first | exact wrapI (by omega) (by omega) | exact rfl)) | (apply Ru.pickT; exact rfl; exact rfl) | (apply Ru.pickF; exact rfl; exact rfl) | (apply Ru.not; exact rfl) | (apply Ru.extractN; exact rfl; exact rfl) | (apply Ru.extract; exact rfl; exact rfl) | (apply Ru.indexAddr; exact rfl; exact rfl; omega; omega) | (apply Ru.indexAddrA; exact rfl; exact rfl; omega; omega) | (apply Ru.loadAN; exact rfl; (repeat (first | exact Pick.here | apply Pick.there)); exact rfl; exact rfl) | (apply Ru.loadA; exact rfl; (repeat (first | exact Pick.here | apply Pick.there)); exact rfl; exact rfl) | (apply Ru.fieldN; exact rfl; exact rfl) | (apply Ru.field; exact rfl; exact rfl) | (apply Ru.fieldA; exact rfl) | (apply Ru.buildN; exact rfl; exact rfl) | (apply Ru.build; exact rfl; exact rfl) | (apply Ru.buildArr; exact rfl; exact rfl) | (apply Ru.makeFunc; exact rfl; exact rfl) | (apply Ru.eqlPN; exact rfl; exact rfl) | (apply Ru.neqPN; exact rfl; exact rfl) | (apply Ru.eqlSN; exact rfl; exact rfl) | (apply Ru.neqSN; exact rfl; exact rfl) | (apply Ru.quoN; exact rfl; exact rfl; omega; omega; omega) | (apply Ru.remN; exact rfl; exact rfl; omega; omega) | (apply Ru.and; exact rfl; exact rfl) | (apply Ru.or; exact rfl; exact rfl) | (apply Ru.xor; exact rfl; exact rfl) | (apply Ru.andNot; exact rfl; exact rfl) | (apply Ru.shl; exact rfl; exact rfl; decide; exact rfl) | (apply Ru.shr; exact rfl; exact rfl; decide; exact rfl) | (apply Ru.neg; exact rfl; exact rfl) | (apply Ru.com; exact rfl; exact rfl) | (apply Ru.conv; exact rfl; exact rfl) | (apply Ru.sliceS; exact rfl; exact rfl; exact rfl; exact rfl; (first | exact fun _ => rfl | exact fun h => nomatch h); omega; omega; omega))) | (apply JO.split; exact rfl; exact rfl; exact rfl; (first | (apply Ru.lss; exact rfl; exact rfl; exact rfl) | (apply Ru.leq; exact rfl; exact rfl; exact rfl) | (apply Ru.gtr; exact rfl; exact rfl; exact rfl) | (apply Ru.geq; exact rfl; exact rfl; exact rfl) | (apply Ru.eql; exact rfl; exact rfl; exact rfl)); all_goals intro _) | (apply JO.splitN; exact rfl; exact rfl; exact rfl; (apply Ru.neq; exact rfl; exact rfl; exact rfl); all_goals intro _) | (apply JQ.split; exact rfl; exact rfl; exact rfl; (first | (apply Ru.lss; exact rfl; exact rfl; exact rfl) | (apply Ru.leq; exact rfl; exact rfl; exact rfl) | (apply Ru.gtr; exact rfl; exact rfl; exact rfl) | (apply Ru.geq; exact rfl; exact rfl; exact rfl) | (apply Ru.eql; exact rfl; exact rfl; exact rfl)); all_goals intro _) | (apply JQ.splitN; exact rfl; exact rfl; exact rfl; (apply Ru.neq; exact rfl; exact rfl; exact rfl); all_goals intro _) | refine JO.guardF rfl rfl rfl rfl rfl rfl rfl ?_ | refine JO.guardF0 rfl rfl rfl rfl rfl rfl ?_ | refine JO.guardT rfl rfl rfl rfl ?_ | refine JQ.skip rfl rfl rfl ?_ | refine JQ.nil ?_ | (apply JO.do; exact rfl; exact rfl; exact rfl; (first | (apply Do.allocN; exact rfl) | apply Do.alloc); rintro _ _ ⟨_, rfl, rfl⟩) | (apply JO.do; exact rfl; exact rfl; exact rfl; (first | (apply Do.boxN; exact rfl; exact rfl) | (apply Do.box; exact rfl)); rintro _ _ ⟨_, rfl, rfl⟩) | (apply JO.do; exact rfl; exact rfl; exact rfl; (first | (apply Do.buildSliceN; exact rfl; exact rfl; exact rfl; exact rfl) | (apply Do.buildSlice; exact rfl; exact rfl; exact rfl; exact rfl)); rintro _ _ ⟨_, rfl, rfl⟩) | (apply JO.do; exact rfl; exact rfl; exact rfl; apply Do.makeMap; rintro _ _ ⟨_, rfl, rfl⟩) | (apply JO.do0; exact rfl; exact rfl; (first | (apply Do.storeN; exact rfl; exact rfl; exact rfl; (repeat (first | exact Pick.here | apply Pick.there)); exact rfl; exact rfl) | (apply Do.store; exact rfl; exact rfl; exact rfl; (repeat (first | exact Pick.here | apply Pick.there)); exact rfl)); rintro _ _ ⟨rfl, rfl⟩) | (apply JO.do0; exact rfl; exact rfl; (first | (apply Do.storeAN; exact rfl; exact rfl; (repeat (first | exact Pick.here | apply Pick.there)); exact rfl; exact rfl; exact rfl; exact rfl) | (apply Do.storeA; exact rfl; exact rfl; (repeat (first | exact Pick.here | apply Pick.there)); exact rfl; exact rfl; exact rfl)); rintro _ _ ⟨rfl, rfl⟩) | refine JC.regionQ mixed (by decide +kernel) ?_ | (apply JE.done1; exact rfl; (first | (apply Res.tmp; exact rfl) | (apply Res.cell; exact rfl; (repeat (first | exact Pick.here | apply Pick.there)); exact rfl) | (apply Res.cellAN; exact rfl; (repeat (first | exact Pick.here | apply Pick.there)); exact rfl; exact rfl) | (apply Res.cellA; exact rfl; (repeat (first | exact Pick.here | apply Pick.there)); exact rfl; exact rfl))) | (apply JE.done2; exact rfl; (first | (apply Res.tmp; exact rfl) | (apply Res.cell; exact rfl; (repeat (first | exact Pick.here | apply Pick.there)); exact rfl) | (apply Res.cellAN; exact rfl; (repeat (first | exact Pick.here | apply Pick.there)); exact rfl; exact rfl) | (apply Res.cellA; exact rfl; (repeat (first | exact Pick.here | apply Pick.there)); exact rfl; exact rfl)); (first | (apply Res.tmp; exact rfl) | (apply Res.cell; exact rfl; (repeat (first | exact Pick.here | apply Pick.there)); exact rfl) | (apply Res.cellAN; exact rfl; (repeat (first | exact Pick.here | apply Pick.there)); exact rfl; exact rfl) | (apply Res.cellA; exact rfl; (repeat (first | exact Pick.here | apply Pick.there)); exact rfl; exact rfl))) | refine JE.done0 rfl ?_)
      refine finD (finS ?_); exact ⟨rfl, rfl⟩
    · have hw : within k 10 = false := by simp [within]; omega
      repeat' (first | (first | (apply JO.ru; exact rfl; exact rfl; exact rfl; (first | (apply Ru.move; exact rfl) | (apply Ru.loadN; exact rfl; (repeat (first | exact Pick.here | apply Pick.there)); exact rfl) | (apply Ru.load; exact rfl; (repeat (first | exact Pick.here | apply Pick.there)); exact rfl) | (apply Ru.fieldAddr; exact rfl) | (apply Ru.nilP; exact rfl) | (apply Ru.assign; exact rfl) | (apply Ru.lenS; exact rfl) | (apply Ru.lss; exact rfl; exact rfl; (first | exact decT (by omega) | exact decF (by omega))) | (apply Ru.leq; exact rfl; exact rfl; (first | exact decT (by omega) | exact decF (by omega))) | (apply Ru.gtr; exact rfl; exact rfl; (first | exact decT (by omega) | exact decF (by omega))) | (apply Ru.geq; exact rfl; exact rfl; (first | exact decT (by omega) | exact decF (by omega))) | (apply Ru.eql; exact rfl; exact rfl; (first | exact decT (by omega) | exact decF (by omega))) | (apply Ru.neq; exact rfl; exact rfl; (first | exact ndecF (by omega) | exact ndecT (by omega))) | (apply Ru.add; exact rfl; exact rfl; (first | exact wrapI (by omega) (by omega) | exact rfl)) | (apply Ru.sub; exact rfl; exact rfl; (first | exact wrapI (by omega) (by omega) | exact rfl)) | (apply Ru.mul; exact rfl; exact rfl; (first | exact wrapI (by omega) (by omega) | exact rfl)) | (apply Ru.pickT; exact rfl; exact rfl) | (apply Ru.pickF; exact rfl; exact rfl) | (apply Ru.not; exact rfl) | (apply Ru.extractN; exact rfl; exact rfl) | (apply Ru.extract; exact rfl; exact rfl) | (apply Ru.indexAddr; exact rfl; exact rfl; omega; omega) | (apply Ru.indexAddrA; exact rfl; exact rfl; omega; omega) | (apply Ru.loadAN; exact rfl; (repeat (first | exact Pick.here | apply Pick.there)); exact rfl; exact rfl) | (apply Ru.loadA; exact rfl; (repeat (first | exact Pick.here | apply Pick.there)); exact rfl; exact rfl) | (apply Ru.fieldN; exact rfl; exact rfl) | (apply Ru.field; exact rfl; exact rfl) | (apply Ru.fieldA; exact rfl) | (apply Ru.buildN; exact rfl; exact rfl) | (apply Ru.build; exact rfl; exact rfl) | (apply Ru.buildArr; exact rfl; exact rfl) | (apply Ru.makeFunc; exact rfl; exact rfl) | (apply Ru.eqlPN; exact rfl; exact rfl) | (apply Ru.neqPN; exact rfl; exact rfl) | (apply Ru.eqlSN; exact rfl; exact rfl) | (apply Ru.neqSN; exact rfl; exact rfl) | (apply Ru.quoN; exact rfl; exact rfl; omega; omega; omega) | (apply Ru.remN; exact rfl; exact rfl; omega; omega) | (apply Ru.and; exact rfl; exact rfl) | (apply Ru.or; exact rfl; exact rfl) | (apply Ru.xor; exact rfl; exact rfl) | (apply Ru.andNot; exact rfl; exact rfl) | (apply Ru.shl; exact rfl; exact rfl; decide; exact rfl) | (apply Ru.shr; exact rfl; exact rfl; decide; exact rfl) | (apply Ru.neg; exact rfl; exact rfl) | (apply Ru.com; exact rfl; exact rfl) | (apply Ru.conv; exact rfl; exact rfl) | (apply Ru.sliceS; exact rfl; exact rfl; exact rfl; exact rfl; (first | exact fun _ => rfl | exact fun h => nomatch h); omega; omega; omega))) | refine JC.seq ?_ | refine JC.region ?_ | refine JO.nil ?_ | refine JE.thenN ?_ | refine JE.thenR ?_ | refine JE.thenE ?_ | refine JE.blockN ?_ | refine JE.blockR ?_ | refine JE.blockE ?_ | refine JE.blockO rfl ?_ | refine JC.block ?_ | refine JC.ret ?_ | refine JC.skip ?_ | refine JC.exit ?_ | refine JC.label ?_ | refine JC.condT rfl ?_ | refine JC.condF rfl ?_ | (apply JQ.ru; exact rfl; exact rfl; exact rfl; (first | (apply Ru.move; exact rfl) | (apply Ru.loadN; exact rfl; (repeat (first | exact Pick.here | apply Pick.there)); exact rfl) | (apply Ru.load; exact rfl; (repeat (first | exact Pick.here | apply Pick.there)); exact rfl) | (apply Ru.fieldAddr; exact rfl) | (apply Ru.nilP; exact rfl) | (apply Ru.assign; exact rfl) | (apply Ru.lenS; exact rfl) | (apply Ru.lss; exact rfl; exact rfl; (first | exact decT (by omega) | exact decF (by omega))) | (apply Ru.leq; exact rfl; exact rfl; (first | exact decT (by omega) | exact decF (by omega))) | (apply Ru.gtr; exact rfl; exact rfl; (first | exact decT (by omega) | exact decF (by omega))) | (apply Ru.geq; exact rfl; exact rfl; (first | exact decT (by omega) | exact decF (by omega))) | (apply Ru.eql; exact rfl; exact rfl; (first | exact decT (by omega) | exact decF (by omega))) | (apply Ru.neq; exact rfl; exact rfl; (first | exact ndecF (by omega) | exact ndecT (by omega))) | (apply Ru.add; exact rfl; exact rfl; (first | exact wrapI (by omega) (by omega) | exact rfl)) | (apply Ru.sub; exact rfl; exact rfl; (first | exact wrapI (by omega) (by omega) | exact rfl)) | (apply Ru.mul; exact rfl; exact rfl; (first | exact wrapI (by omega) (by omega) | exact rfl)) | (apply Ru.pickT; exact rfl; exact rfl) | (apply Ru.pickF; exact rfl; exact rfl) | (apply Ru.not; exact rfl) | (apply Ru.extractN; exact rfl; exact rfl) | (apply Ru.extract; exact rfl; exact rfl) | (apply Ru.indexAddr; exact rfl; exact rfl; omega; omega) | (apply Ru.indexAddrA; exact rfl; exact rfl; omega; omega) | (apply Ru.loadAN; exact rfl; (repeat (first | exact Pick.here | apply Pick.there)); exact rfl; exact rfl) | (apply Ru.loadA; exact rfl; (repeat (first | exact Pick.here | apply Pick.there)); exact rfl; exact rfl) | (apply Ru.fieldN; exact rfl; exact rfl) | (apply Ru.field; exact rfl; exact rfl) | (apply Ru.fieldA; exact rfl) | (apply Ru.buildN; exact rfl; exact rfl) | (apply Ru.build; exact rfl; exact rfl) | (apply Ru.buildArr; exact rfl; exact rfl) | (apply Ru.makeFunc; exact rfl; exact rfl) | (apply Ru.eqlPN; exact rfl; exact rfl) | (apply Ru.neqPN; exact rfl; exact rfl) | (apply Ru.eqlSN; exact rfl; exact rfl) | (apply Ru.neqSN; exact rfl; exact rfl) | (apply Ru.quoN; exact rfl; exact rfl; omega; omega; omega) | (apply Ru.remN; exact rfl; exact rfl; omega; omega) | (apply Ru.and; exact rfl; exact rfl) | (apply Ru.or; exact rfl; exact rfl) | (apply Ru.xor; exact rfl; exact rfl) | (apply Ru.andNot; exact rfl; exact rfl) | (apply Ru.shl; exact rfl; exact rfl; decide; exact rfl) | (apply Ru.shr; exact rfl; exact rfl; decide; exact rfl) | (apply Ru.neg; exact rfl; exact rfl) | (apply Ru.com; exact rfl; exact rfl) | (apply Ru.conv; exact rfl; exact rfl) | (apply Ru.sliceS; exact rfl; exact rfl; exact rfl; exact rfl; (first | exact fun _ => rfl | exact fun h => nomatch h); omega; omega; omega))) | (apply JO.split; exact rfl; exact rfl; exact rfl; (first | (apply Ru.lss; exact rfl; exact rfl; exact rfl) | (apply Ru.leq; exact rfl; exact rfl; exact rfl) | (apply Ru.gtr; exact rfl; exact rfl; exact rfl) | (apply Ru.geq; exact rfl; exact rfl; exact rfl) | (apply Ru.eql; exact rfl; exact rfl; exact rfl)); all_goals intro _) | (apply JO.splitN; exact rfl; exact rfl; exact rfl; (apply Ru.neq; exact rfl; exact rfl; exact rfl); all_goals intro _) | (apply JQ.split; exact rfl; exact rfl; exact rfl; (first | (apply Ru.lss; exact rfl; exact rfl; exact rfl) | (apply Ru.leq; exact rfl; exact rfl; exact rfl) | (apply Ru.gtr; exact rfl; exact rfl; exact rfl) | (apply Ru.geq; exact rfl; exact rfl; exact rfl) | (apply Ru.eql; exact rfl; exact rfl; exact rfl)); all_goals intro _) | (apply JQ.splitN; exact rfl; exact rfl; exact rfl; (apply Ru.neq; exact rfl; exact rfl; exact rfl); all_goals intro _) | refine JO.guardF rfl rfl rfl rfl rfl rfl rfl ?_ | refine JO.guardF0 rfl rfl rfl rfl rfl rfl ?_ | refine JO.guardT rfl rfl rfl rfl ?_ | refine JQ.skip rfl rfl rfl ?_ | refine JQ.nil ?_ | (apply JO.do; exact rfl; exact rfl; exact rfl; (first | (apply Do.allocN; exact rfl) | apply Do.alloc); rintro _ _ ⟨_, rfl, rfl⟩) | (apply JO.do; exact rfl; exact rfl; exact rfl; (first | (apply Do.boxN; exact rfl; exact rfl) | (apply Do.box; exact rfl)); rintro _ _ ⟨_, rfl, rfl⟩) | (apply JO.do; exact rfl; exact rfl; exact rfl; (first | (apply Do.buildSliceN; exact rfl; exact rfl; exact rfl; exact rfl) | (apply Do.buildSlice; exact rfl; exact rfl; exact rfl; exact rfl)); rintro _ _ ⟨_, rfl, rfl⟩) | (apply JO.do; exact rfl; exact rfl; exact rfl; apply Do.makeMap; rintro _ _ ⟨_, rfl, rfl⟩) | (apply JO.do0; exact rfl; exact rfl; (first | (apply Do.storeN; exact rfl; exact rfl; exact rfl; (repeat (first | exact Pick.here | apply Pick.there)); exact rfl; exact rfl) | (apply Do.store; exact rfl; exact rfl; exact rfl; (repeat (first | exact Pick.here | apply Pick.there)); exact rfl)); rintro _ _ ⟨rfl, rfl⟩) | (apply JO.do0; exact rfl; exact rfl; (first | (apply Do.storeAN; exact rfl; exact rfl; (repeat (first | exact Pick.here | apply Pick.there)); exact rfl; exact rfl; exact rfl; exact rfl) | (apply Do.storeA; exact rfl; exact rfl; (repeat (first | exact Pick.here | apply Pick.there)); exact rfl; exact rfl; exact rfl)); rintro _ _ ⟨rfl, rfl⟩) | refine JC.regionQ mixed (by decide +kernel) ?_ | (apply JE.done1; exact rfl; (first | (apply Res.tmp; exact rfl) | (apply Res.cell; exact rfl; (repeat (first | exact Pick.here | apply Pick.there)); exact rfl) | (apply Res.cellAN; exact rfl; (repeat (first | exact Pick.here | apply Pick.there)); exact rfl; exact rfl) | (apply Res.cellA; exact rfl; (repeat (first | exact Pick.here | apply Pick.there)); exact rfl; exact rfl))) | (apply JE.done2; exact rfl; (first | (apply Res.tmp; exact rfl) | (apply Res.cell; exact rfl; (repeat (first | exact Pick.here | apply Pick.there)); exact rfl) | (apply Res.cellAN; exact rfl; (repeat (first | exact Pick.here | apply Pick.there)); exact rfl; exact rfl) | (apply Res.cellA; exact rfl; (repeat (first | exact Pick.here | apply Pick.there)); exact rfl; exact rfl)); (first | (apply Res.tmp; exact rfl) | (apply Res.cell; exact rfl; (repeat (first | exact Pick.here | apply Pick.there)); exact rfl) | (apply Res.cellAN; exact rfl; (repeat (first | exact Pick.here | apply Pick.there)); exact rfl; exact rfl) | (apply Res.cellA; exact rfl; (repeat (first | exact Pick.here | apply Pick.there)); exact rfl; exact rfl))) | refine JE.done0 rfl ?_) | ((first | (apply JO.do; exact rfl; exact rfl; exact rfl; (apply Do.call; exact rfl; exact geo_within _ _); rintro _ _ ⟨rfl, hq⟩; obtain rfl := hq.symm) | (apply JQ.call; exact rfl; exact rfl; exact rfl; exact geo_within _ _; (rintro _ _ ⟨rfl, rfl⟩; exact ⟨rfl, rfl⟩))); rw [hw]))
      refine finD (finS ?_); exact ⟨rfl, rfl⟩

set_option maxHeartbeats 1000000 in
theorem geo_power0 (k : Int) [hg : InG F] : Fn Tryz.prog σ 133 #[int k, int 0] F (fun v l => v = int (epSize k) ∧ l = F) := by
  refine Fn.of Tryz.func133 rfl Tryz.ntmps133 rfl ?_
  by_cases h : 1 ≤ k ∧ k ≤ 10
  · repeat' (first | (first | (apply JO.ru; exact rfl; exact rfl; exact rfl; (first | (apply Ru.move; exact rfl) | (apply Ru.loadN; exact rfl; (repeat (first | exact Pick.here | apply Pick.there)); exact rfl) | (apply Ru.load; exact rfl; (repeat (first | exact Pick.here | apply Pick.there)); exact rfl) | (apply Ru.fieldAddr; exact rfl) | (apply Ru.nilP; exact rfl) | (apply Ru.assign; exact rfl) | (apply Ru.lenS; exact rfl) | (apply Ru.lss; exact rfl; exact rfl; (first | exact decT (by omega) | exact decF (by omega))) | (apply Ru.leq; exact rfl; exact rfl; (first | exact decT (by omega) | exact decF (by omega))) | (apply Ru.gtr; exact rfl; exact rfl; (first | exact decT (by omega) | exact decF (by omega))) | (apply Ru.geq; exact rfl; exact rfl; (first | exact decT (by omega) | exact decF (by omega))) | (apply Ru.eql; exact rfl; exact rfl; (first | exact decT (by omega) | exact decF (by omega))) | (apply Ru.neq; exact rfl; exact rfl; (first | exact ndecF (by omega) | exact ndecT (by omega))) | (apply Ru.add; exact rfl; exact rfl; (first | exact wrapI (by omega) (by omega) | exact rfl)) | (apply Ru.sub; exact rfl; exact rfl; (first | exact wrapI (by omega) (by omega) | exact rfl)) | (apply Ru.mul; exact rfl; exact rfl; (first | exact wrapI (by omega) (by omega) | exact rfl)) | (apply Ru.pickT; exact rfl; exact rfl) | (apply Ru.pickF; exact rfl; exact rfl) | (apply Ru.not; exact rfl) | (apply Ru.extractN; exact rfl; exact rfl) | (apply Ru.extract; exact rfl; exact rfl) | (apply Ru.indexAddr; exact rfl; exact rfl; omega; omega) | (apply Ru.indexAddrA; exact rfl; exact rfl; omega; omega) | (apply Ru.loadAN; exact rfl; (repeat (first | exact Pick.here | apply Pick.there)); exact rfl; exact rfl) | (apply Ru.loadA; exact rfl; (repeat (first | exact Pick.here | apply Pick.there)); exact rfl; exact rfl) | (apply Ru.fieldN; exact rfl; exact rfl) | (apply Ru.field; exact rfl; exact rfl) | (apply Ru.fieldA; exact rfl) | (apply Ru.buildN; exact rfl; exact rfl) | (apply Ru.build; exact rfl; exact rfl) | (apply Ru.buildArr; exact rfl; exact rfl) | (apply Ru.makeFunc; exact rfl; exact rfl) | (apply Ru.eqlPN; exact rfl; exact rfl) | (apply Ru.neqPN; exact rfl; exact rfl) | (apply Ru.eqlSN; exact rfl; exact rfl) | (apply Ru.neqSN; exact rfl; exact rfl) | (apply Ru.quoN; exact rfl; exact rfl; omega; omega; omega) | (apply Ru.remN; exact rfl; exact rfl; omega; omega) | (apply Ru.and; exact rfl; exact rfl) | (apply Ru.or; exact rfl; exact rfl) | (apply Ru.xor; exact rfl; exact rfl) | (apply Ru.andNot; exact rfl; exact rfl) | (apply Ru.shl; exact rfl; exact rfl; decide; exact rfl) | (apply Ru.shr; exact rfl; exact rfl; decide; exact rfl) | (apply Ru.neg; exact rfl; exact rfl) | (apply Ru.com; exact rfl; exact rfl) | (apply Ru.conv; exact rfl; exact rfl) | (apply Ru.sliceS; exact rfl; exact rfl; exact rfl; exact rfl; (first | exact fun _ => rfl | exact fun h => nomatch h); omega; omega; omega))) | refine JC.seq ?_ | refine JC.region ?_ | refine JO.nil ?_ | refine JE.thenN ?_ | refine JE.thenR ?_ | refine JE.thenE ?_ | refine JE.blockN ?_ | refine JE.blockR ?_ | refine JE.blockE ?_ | refine JE.blockO rfl ?_ | refine JC.block ?_ | refine JC.ret ?_ | refine JC.skip ?_ | refine JC.exit ?_ | refine JC.label ?_ | refine JC.condT rfl ?_ | refine JC.condF rfl ?_ | (apply JQ.ru; exact rfl; exact rfl; exact rfl; (first | (apply Ru.move; exact rfl) | (apply Ru.loadN; exact rfl; (repeat (first | exact Pick.here | apply Pick.there)); exact rfl) | (apply Ru.load; exact rfl; (repeat (first | exact Pick.here | apply Pick.there)); exact rfl) | (apply Ru.fieldAddr; exact rfl) | (apply Ru.nilP; exact rfl) | (apply Ru.assign; exact rfl) | (apply Ru.lenS; exact rfl) | (apply Ru.lss; exact rfl; exact rfl; (first | exact decT (by omega) | exact decF (by omega))) | (apply Ru.leq; exact rfl; exact rfl; (first | exact decT (by omega) | exact decF (by omega))) | (apply Ru.gtr; exact rfl; exact rfl; (first | exact decT (by omega) | exact decF (by omega))) | (apply Ru.geq; exact rfl; exact rfl; (first | exact decT (by omega) | exact decF (by omega))) | (apply Ru.eql; exact rfl; exact rfl; (first | exact decT (by omega) | exact decF (by omega))) | (apply Ru.neq; exact rfl; exact rfl; (first | exact ndecF (by omega) | exact ndecT (by omega))) | (apply Ru.add; exact rfl; exact rfl; (first | exact wrapI (by omega) (by omega) | exact rfl)) | (apply Ru.sub; exact rfl; exact rfl; (first | exact wrapI (by omega) (by omega) | exact rfl)) | (apply Ru.mul; exact rfl; exact rfl; (first | exact wrapI (by omega) (by omega) | exact rfl)) | (apply Ru.pickT; exact rfl; exact rfl) | (apply Ru.pickF; exact rfl; exact rfl) | (apply Ru.not; exact rfl) | (apply Ru.extractN; exact rfl; exact rfl) | (apply Ru.extract; exact rfl; exact rfl) | (apply Ru.indexAddr; exact rfl; exact rfl; omega; omega) | (apply Ru.indexAddrA; exact rfl; exact rfl; omega; omega) | (apply Ru.loadAN; exact rfl; (repeat (first | exact Pick.here | apply Pick.there)); exact rfl; exact rfl) | (apply Ru.loadA; exact rfl; (repeat (first | exact Pick.here | apply Pick.there)); exact rfl; exact rfl) | (apply Ru.fieldN; exact rfl; exact rfl) | (apply Ru.field; exact rfl; exact rfl) | (apply Ru.fieldA; exact rfl) | (apply Ru.buildN; exact rfl; exact rfl) | (apply Ru.build; exact rfl; exact rfl) | (apply Ru.buildArr; exact rfl; exact rfl) | (apply Ru.makeFunc; exact rfl; exact rfl) | (apply Ru.eqlPN; exact rfl; exact rfl) | (apply Ru.neqPN; exact rfl; exact rfl) | (apply Ru.eqlSN; exact rfl; exact rfl) | (apply Ru.neqSN; exact rfl; exact rfl) | (apply Ru.quoN; exact rfl; exact rfl; omega; omega; omega) | (apply Ru.remN; exact rfl; exact rfl; omega; omega) | (apply Ru.and; exact rfl; exact rfl) | (apply Ru.or; exact rfl; exact rfl) | (apply Ru.xor; exact rfl; exact rfl) | (apply Ru.andNot; exact rfl; exact rfl) | (apply Ru.shl; exact rfl; exact rfl; decide; exact rfl) | (apply Ru.shr; exact rfl; exact rfl; decide; exact rfl) | (apply Ru.neg; exact rfl; exact rfl) | (apply Ru.com; exact rfl; exact rfl) | (apply Ru.conv; exact rfl; exact rfl) | (apply Ru.sliceS; exact rfl; exact rfl; exact rfl; exact rfl; (first | exact fun _ => rfl | exact fun h => nomatch h); omega; omega; omega))) | (apply JO.split; exact rfl; exact rfl; exact rfl; (first | (apply Ru.lss; exact rfl; exact rfl; exact rfl) | (apply Ru.leq; exact rfl; exact rfl; exact rfl) | (apply Ru.gtr; exact rfl; exact rfl; exact rfl) | (apply Ru.geq; exact rfl; exact rfl; exact rfl) | (apply Ru.eql; exact rfl; exact rfl; exact rfl)); all_goals intro _) | (apply JO.splitN; exact rfl; exact rfl; exact rfl; (apply Ru.neq; exact rfl; exact rfl; exact rfl); all_goals intro _) | (apply JQ.split; exact rfl; exact rfl; exact rfl; (first | (apply Ru.lss; exact rfl; exact rfl; exact rfl) | (apply Ru.leq; exact rfl; exact rfl; exact rfl) | (apply Ru.gtr; exact rfl; exact rfl; exact rfl) | (apply Ru.geq; exact rfl; exact rfl; exact rfl) | (apply Ru.eql; exact rfl; exact rfl; exact rfl)); all_goals intro _) | (apply JQ.splitN; exact rfl; exact rfl; exact rfl; (apply Ru.neq; exact rfl; exact rfl; exact rfl); all_goals intro _) | refine JO.guardF rfl rfl rfl rfl rfl rfl rfl ?_ | refine JO.guardF0 rfl rfl rfl rfl rfl rfl ?_ | refine JO.guardT rfl rfl rfl rfl ?_ | refine JQ.skip rfl rfl rfl ?_ | refine JQ.nil ?_ | (apply JO.do; exact rfl; exact rfl; exact rfl; (first | (apply Do.allocN; exact rfl) | apply Do.alloc); rintro _ _ ⟨_, rfl, rfl⟩) | (apply JO.do; exact rfl; exact rfl; exact rfl; (first | (apply Do.boxN; exact rfl; exact rfl) | (apply Do.box; exact rfl)); rintro _ _ ⟨_, rfl, rfl⟩) | (apply JO.do; exact rfl; exact rfl; exact rfl; (first | (apply Do.buildSliceN; exact rfl; exact rfl; exact rfl; exact rfl) | (apply Do.buildSlice; exact rfl; exact rfl; exact rfl; exact rfl)); rintro _ _ ⟨_, rfl, rfl⟩) | (apply JO.do; exact rfl; exact rfl; exact rfl; apply Do.makeMap; rintro _ _ ⟨_, rfl, rfl⟩) | (apply JO.do0; exact rfl; exact rfl; (first | (apply Do.storeN; exact rfl; exact rfl; exact rfl; (repeat (first | exact Pick.here | apply Pick.there)); exact rfl; exact rfl) | (apply Do.store; exact rfl; exact rfl; exact rfl; (repeat (first | exact Pick.here | apply Pick.there)); exact rfl)); rintro _ _ ⟨rfl, rfl⟩) | (apply JO.do0; exact rfl; exact rfl; (first | (apply Do.storeAN; exact rfl; exact rfl; (repeat (first | exact Pick.here | apply Pick.there)); exact rfl; exact rfl; exact rfl; exact rfl) | (apply Do.storeA; exact rfl; exact rfl; (repeat (first | exact Pick.here | apply Pick.there)); exact rfl; exact rfl; exact rfl)); rintro _ _ ⟨rfl, rfl⟩) | refine JC.regionQ mixed (by decide +kernel) ?_ | (apply JE.done1; exact rfl; (first | (apply Res.tmp; exact rfl) | (apply Res.cell; exact rfl; (repeat (first | exact Pick.here | apply Pick.there)); exact rfl) | (apply Res.cellAN; exact rfl; (repeat (first | exact Pick.here | apply Pick.there)); exact rfl; exact rfl) | (apply Res.cellA; exact rfl; (repeat (first | exact Pick.here | apply Pick.there)); exact rfl; exact rfl))) | (apply JE.done2; exact rfl; (first | (apply Res.tmp; exact rfl) | (apply Res.cell; exact rfl; (repeat (first | exact Pick.here | apply Pick.there)); exact rfl) | (apply Res.cellAN; exact rfl; (repeat (first | exact Pick.here | apply Pick.there)); exact rfl; exact rfl) | (apply Res.cellA; exact rfl; (repeat (first | exact Pick.here | apply Pick.there)); exact rfl; exact rfl)); (first | (apply Res.tmp; exact rfl) | (apply Res.cell; exact rfl; (repeat (first | exact Pick.here | apply Pick.there)); exact rfl) | (apply Res.cellAN; exact rfl; (repeat (first | exact Pick.here | apply Pick.there)); exact rfl; exact rfl) | (apply Res.cellA; exact rfl; (repeat (first | exact Pick.here | apply Pick.there)); exact rfl; exact rfl))) | refine JE.done0 rfl ?_) | ((first | (apply JO.do; exact rfl; exact rfl; exact rfl; (apply Do.call; exact rfl; exact geo_row _); rintro _ _ ⟨hv, rfl⟩) | (apply JQ.call; exact rfl; exact rfl; exact rfl; exact geo_row _; (rintro _ _ ⟨hv, rfl⟩; exact ⟨rfl, rfl⟩))); rw [if_pos h] at hv; subst hv))
    refine JO.ru rfl rfl rfl (Ru.shl rfl rfl (rw4_pow h).1 (rw4_pow h).2) ?_
    repeat' (first | (apply JO.ru; exact rfl; exact rfl; exact rfl; (first | (apply Ru.move; exact rfl) | (apply Ru.loadN; exact rfl; (repeat (first | exact Pick.here | apply Pick.there)); exact rfl) | (apply Ru.load; exact rfl; (repeat (first | exact Pick.here | apply Pick.there)); exact rfl) | (apply Ru.fieldAddr; exact rfl) | (apply Ru.nilP; exact rfl) | (apply Ru.assign; exact rfl) | (apply Ru.lenS; exact rfl) | (apply Ru.lss; exact rfl; exact rfl; (first | exact decT (by omega) | exact decF (by omega))) | (apply Ru.leq; exact rfl; exact rfl; (first | exact decT (by omega) | exact decF (by omega))) | (apply Ru.gtr; exact rfl; exact rfl; (first | exact decT (by omega) | exact decF (by omega))) | (apply Ru.geq; exact rfl; exact rfl; (first | exact decT (by omega) | exact decF (by omega))) | (apply Ru.eql; exact rfl; exact rfl; (first | exact decT (by omega) | exact decF (by omega))) | (apply Ru.neq; exact rfl; exact rfl; (first | exact ndecF (by omega) | exact ndecT (by omega))) | (apply Ru.add; exact rfl; exact rfl; (first | exact wrapI (by omega) (by omega) | exact rfl)) | (apply Ru.sub; exact rfl; exact rfl; (first | exact wrapI (by omega) (by omega) | exact rfl)) | (apply Ru.mul; exact rfl; exact rfl; (first | exact wrapI (by omega) (by omega) | exact rfl)) | (apply Ru.pickT; exact rfl; exact rfl) | (apply Ru.pickF; exact rfl; exact rfl) | (apply Ru.not; exact rfl) | (apply Ru.extractN; exact rfl; exact rfl) | (apply Ru.extract; exact rfl; exact rfl) | (apply Ru.indexAddr; exact rfl; exact rfl; omega; omega) | (apply Ru.indexAddrA; exact rfl; exact rfl; omega; omega) | (apply Ru.loadAN; exact rfl; (repeat (first | exact Pick.here | apply Pick.there)); exact rfl; exact rfl) | (apply Ru.loadA; exact rfl; (repeat (first | exact Pick.here | apply Pick.there)); exact rfl; exact rfl) | (apply Ru.fieldN; exact rfl; exact rfl) | (apply Ru.field; exact rfl; exact rfl) | (apply Ru.fieldA; exact rfl) | (apply Ru.buildN; exact rfl; exact rfl) | (apply Ru.build; exact rfl; exact rfl) | (apply Ru.buildArr; exact rfl; exact rfl) | (apply Ru.makeFunc; exact rfl; exact rfl) | (apply Ru.eqlPN; exact rfl; exact rfl) | (apply Ru.neqPN; exact rfl; exact rfl) | (apply Ru.eqlSN; exact rfl; exact rfl) | (apply Ru.neqSN; exact rfl; exact rfl) | (apply Ru.quoN; exact rfl; exact rfl; omega; omega; omega) | (apply Ru.remN; exact rfl; exact rfl; omega; omega) | (apply Ru.and; exact rfl; exact rfl) | (apply Ru.or; exact rfl; exact rfl) | (apply Ru.xor; exact rfl; exact rfl) | (apply Ru.andNot; exact rfl; exact rfl) | (apply Ru.shl; exact rfl; exact rfl; decide; exact rfl) | (apply Ru.shr; exact rfl; exact rfl; decide; exact rfl) | (apply Ru.neg; exact rfl; exact rfl) | (apply Ru.com; exact rfl; exact rfl) | (apply Ru.conv; exact rfl; exact rfl) | (apply Ru.sliceS; exact rfl; exact rfl; exact rfl; exact rfl; (first | exact fun _ => rfl | exact fun h => nomatch h); omega; omega; omega))) | refine JC.seq ?_ | refine JC.region ?_ | refine JO.nil ?_ | refine JE.thenN ?_ | refine JE.thenR ?_ | refine JE.thenE ?_ | refine JE.blockN ?_ | refine JE.blockR ?_ | refine JE.blockE ?_ | refine JE.blockO rfl ?_ | refine JC.block ?_ | refine JC.ret ?_ | refine JC.skip ?_ | refine JC.exit ?_ | refine JC.label ?_ | refine JC.condT rfl ?_ | refine JC.condF rfl ?_ | (apply JQ.ru; exact rfl; exact rfl; exact rfl; (first | (apply Ru.move; exact rfl) | (apply Ru.loadN; exact rfl; (repeat (first | exact Pick.here | apply Pick.there)); exact rfl) | (apply Ru.load; exact rfl; (repeat (first | exact Pick.here | apply Pick.there)); exact rfl) | (apply Ru.fieldAddr; exact rfl) | (apply Ru.nilP; exact rfl) | (apply Ru.assign; exact rfl) | (apply Ru.lenS; exact rfl) | (apply Ru.lss; exact rfl; exact rfl; (first | exact decT (by omega) | exact decF (by omega))) | (apply Ru.leq; exact rfl; exact rfl; (first | exact decT (by omega) | exact decF (by omega))) | (apply Ru.gtr; exact rfl; exact rfl; (first | exact decT (by omega) | exact decF (by omega))) | (apply Ru.geq; exact rfl; exact rfl; (first | exact decT (by omega) | exact decF (by omega))) | (apply Ru.eql; exact rfl; exact rfl; (first | exact decT (by omega) | exact decF (by omega))) | (apply Ru.neq; exact rfl; exact rfl; (first | exact ndecF (by omega) | exact ndecT (by omega))) | (apply Ru.add; exact rfl; exact rfl; (first | exact wrapI (by omega) (by omega) | exact rfl)) | (apply Ru.sub; exact rfl; exact rfl; (first | exact wrapI (by omega) (by omega) | exact rfl)) | (apply Ru.mul; exact rfl; exact rfl; (first | exact wrapI (by omega) (by omega) | exact rfl)) | (apply Ru.pickT; exact rfl; exact rfl) | (apply Ru.pickF; exact rfl; exact rfl) | (apply Ru.not; exact rfl) | (apply Ru.extractN; exact rfl; exact rfl) | (apply Ru.extract; exact rfl; exact rfl) | (apply Ru.indexAddr; exact rfl; exact rfl; omega; omega) | (apply Ru.indexAddrA; exact rfl; exact rfl; omega; omega) | (apply Ru.loadAN; exact rfl; (repeat (first | exact Pick.here | apply Pick.there)); exact rfl; exact rfl) | (apply Ru.loadA; exact rfl; (repeat (first | exact Pick.here | apply Pick.there)); exact rfl; exact rfl) | (apply Ru.fieldN; exact rfl; exact rfl) | (apply Ru.field; exact rfl; exact rfl) | (apply Ru.fieldA; exact rfl) | (apply Ru.buildN; exact rfl; exact rfl) | (apply Ru.build; exact rfl; exact rfl) | (apply Ru.buildArr; exact rfl; exact rfl) | (apply Ru.makeFunc; exact rfl; exact rfl) | (apply Ru.eqlPN; exact rfl; exact rfl) | (apply Ru.neqPN; exact rfl; exact rfl) | (apply Ru.eqlSN; exact rfl; exact rfl) | (apply Ru.neqSN; exact rfl; exact rfl) | (apply Ru.quoN; exact rfl; exact rfl; omega; omega; omega) | (apply Ru.remN; exact rfl; exact rfl; omega; omega) | (apply Ru.and; exact rfl; exact rfl) | (apply Ru.or; exact rfl; exact rfl) | (apply Ru.xor; exact rfl; exact rfl) | (apply Ru.andNot; exact rfl; exact rfl) | (apply Ru.shl; exact rfl; exact rfl; decide; exact rfl) | (apply Ru.shr; exact rfl; exact rfl; decide; exact rfl) | (apply Ru.neg; exact rfl; exact rfl) | (apply Ru.com; exact rfl; exact rfl) | (apply Ru.conv; exact rfl; exact rfl) | (apply Ru.sliceS; exact rfl; exact rfl; exact rfl; exact rfl; (first | exact fun _ => rfl | exact fun h => nomatch h); omega; omega; omega))) | (apply JO.split; exact rfl; exact rfl; exact rfl; (first | (apply Ru.lss; exact rfl; exact rfl; exact rfl) | (apply Ru.leq; exact rfl; exact rfl; exact rfl) | (apply Ru.gtr; exact rfl; exact rfl; exact rfl) | (apply Ru.geq; exact rfl; exact rfl; exact rfl) | (apply Ru.eql; exact rfl; exact rfl; exact rfl)); all_goals intro _) | (apply JO.splitN; exact rfl; exact rfl; exact rfl; (apply Ru.neq; exact rfl; exact rfl; exact rfl); all_goals intro _) | (apply JQ.split; exact rfl; exact rfl; exact rfl; (first | (apply Ru.lss; exact rfl; exact rfl; exact rfl) | (apply Ru.leq; exact rfl; exact rfl; exact rfl) | (apply Ru.gtr; exact rfl; exact rfl; exact rfl) | (apply Ru.geq; exact rfl; exact rfl; exact rfl) | (apply Ru.eql; exact rfl; exact rfl; exact rfl)); all_goals intro _) | (apply JQ.splitN; exact rfl; exact rfl; exact rfl; (apply Ru.neq; exact rfl; exact rfl; exact rfl); all_goals intro _) | refine JO.guardF rfl rfl rfl rfl rfl rfl rfl ?_ | refine JO.guardF0 rfl rfl rfl rfl rfl rfl ?_ | refine JO.guardT rfl rfl rfl rfl ?_ | refine JQ.skip rfl rfl rfl ?_ | refine JQ.nil ?_ | (apply JO.do; exact rfl; exact rfl; exact rfl; (first | (apply Do.allocN; exact rfl) | apply Do.alloc); rintro _ _ ⟨_, rfl, rfl⟩) | (apply JO.do; exact rfl; exact rfl; exact rfl; (first | (apply Do.boxN; exact rfl; exact rfl) | (apply Do.box; exact rfl)); rintro _ _ ⟨_, rfl, rfl⟩) | (apply JO.do; exact rfl; exact rfl; exact rfl; (first | (apply Do.buildSliceN; exact rfl; exact rfl; exact rfl; exact rfl) | (apply Do.buildSlice; exact rfl; exact rfl; exact rfl; exact rfl)); rintro _ _ ⟨_, rfl, rfl⟩) | (apply JO.do; exact rfl; exact rfl; exact rfl; apply Do.makeMap; rintro _ _ ⟨_, rfl, rfl⟩) | (apply JO.do0; exact rfl; exact rfl; (first | (apply Do.storeN; exact rfl; exact rfl; exact rfl; (repeat (first | exact Pick.here | apply Pick.there)); exact rfl; exact rfl) | (apply Do.store; exact rfl; exact rfl; exact rfl; (repeat (first | exact Pick.here | apply Pick.there)); exact rfl)); rintro _ _ ⟨rfl, rfl⟩) | (apply JO.do0; exact rfl; exact rfl; (first | (apply Do.storeAN; exact rfl; exact rfl; (repeat (first | exact Pick.here | apply Pick.there)); exact rfl; exact rfl; exact rfl; exact rfl) | (apply Do.storeA; exact rfl; exact rfl; (repeat (first | exact Pick.here | apply Pick.there)); exact rfl; exact rfl; exact rfl)); rintro _ _ ⟨rfl, rfl⟩) | refine JC.regionQ mixed (by decide +kernel) ?_ | (apply JE.done1; exact rfl; (first | (apply Res.tmp; exact rfl) | (apply Res.cell; exact rfl; (repeat (first | exact Pick.here | apply Pick.there)); exact rfl) | (apply Res.cellAN; exact rfl; (repeat (first | exact Pick.here | apply Pick.there)); exact rfl; exact rfl) | (apply Res.cellA; exact rfl; (repeat (first | exact Pick.here | apply Pick.there)); exact rfl; exact rfl))) | (apply JE.done2; exact rfl; (first | (apply Res.tmp; exact rfl) | (apply Res.cell; exact rfl; (repeat (first | exact Pick.here | apply Pick.there)); exact rfl) | (apply Res.cellAN; exact rfl; (repeat (first | exact Pick.here | apply Pick.there)); exact rfl; exact rfl) | (apply Res.cellA; exact rfl; (repeat (first | exact Pick.here | apply Pick.there)); exact rfl; exact rfl)); (first | (apply Res.tmp; exact rfl) | (apply Res.cell; exact rfl; (repeat (first | exact Pick.here | apply Pick.there)); exact rfl) | (apply Res.cellAN; exact rfl; (repeat (first | exact Pick.here | apply Pick.there)); exact rfl; exact rfl) | (apply Res.cellA; exact rfl; (repeat (first | exact Pick.here | apply Pick.there)); exact rfl; exact rfl))) | refine JE.done0 rfl ?_)
    refine finD (finS ?_); exact ⟨rfl, rfl⟩
  · repeat' (first | (first | (apply JO.ru; exact rfl; exact rfl; exact rfl; (first | (apply Ru.move; exact rfl) | (apply Ru.loadN; exact rfl; (repeat (first | exact Pick.here | apply Pick.there)); exact rfl) | (apply Ru.load; exact rfl; (repeat (first | exact Pick.here | apply Pick.there)); exact rfl) | (apply Ru.fieldAddr; exact rfl) | (apply Ru.nilP; exact rfl) | (apply Ru.assign; exact rfl) | (apply Ru.lenS; exact rfl) | (apply Ru.lss; exact rfl; exact rfl; (first | exact decT (by omega) | exact decF (by omega))) | (apply Ru.leq; exact rfl; exact rfl; (first | exact decT (by omega) | exact decF (by omega))) | (apply Ru.gtr; exact rfl; exact rfl; (first | exact decT (by omega) | exact decF (by omega))) | (apply Ru.geq; exact rfl; exact rfl; (first | exact decT (by omega) | exact decF (by omega))) | (apply Ru.eql; exact rfl; exact rfl; (first | exact decT (by omega) | exact decF (by omega))) | (apply Ru.neq; exact rfl; exact rfl; (first | exact ndecF (by omega) | exact ndecT (by omega))) | (apply Ru.add; exact rfl; exact rfl; (first | exact wrapI (by omega) (by omega) | exact rfl)) | (apply Ru.sub; exact rfl; exact rfl; (first | exact wrapI (by omega) (by omega) | exact rfl)) | (apply Ru.mul; exact rfl; exact rfl; (first | exact wrapI (by omega) (by omega) | exact rfl)) | (apply Ru.pickT; exact rfl; exact rfl) | (apply Ru.pickF; exact rfl; exact rfl) | (apply Ru.not; exact rfl) | (apply Ru.extractN; exact rfl; exact rfl) | (apply Ru.extract; exact rfl; exact rfl) | (apply Ru.indexAddr; exact rfl; exact rfl; omega; omega) | (apply Ru.indexAddrA; exact rfl; exact rfl; omega; omega) | (apply Ru.loadAN; exact rfl; (repeat (first | exact Pick.here | apply Pick.there)); exact rfl; exact rfl) | (apply Ru.loadA; exact rfl; (repeat (first | exact Pick.here | apply Pick.there)); exact rfl; exact rfl) | (apply Ru.fieldN; exact rfl; exact rfl) | (apply Ru.field; exact rfl; exact rfl) | (apply Ru.fieldA; exact rfl) | (apply Ru.buildN; exact rfl; exact rfl) | (apply Ru.build; exact rfl; exact rfl) | (apply Ru.buildArr; exact rfl; exact rfl) | (apply Ru.makeFunc; exact rfl; exact rfl) | (apply Ru.eqlPN; exact rfl; exact rfl) | (apply Ru.neqPN; exact rfl; exact rfl) | (apply Ru.eqlSN; exact rfl; exact rfl) | (apply Ru.neqSN; exact rfl; exact rfl) | (apply Ru.quoN; exact rfl; exact rfl; omega; omega; omega) | (apply Ru.remN; exact rfl; exact rfl; omega; omega) | (apply Ru.and; exact rfl; exact rfl) | (apply Ru.or; exact rfl; exact rfl) | (apply Ru.xor; exact rfl; exact rfl) | (apply Ru.andNot; exact rfl; exact rfl) | (apply Ru.shl; exact rfl; exact rfl; decide; exact rfl) | (apply Ru.shr; exact rfl; exact rfl; decide; exact rfl) | (apply Ru.neg; exact rfl; exact rfl) | (apply Ru.com; exact rfl; exact rfl) | (apply Ru.conv; exact rfl; exact rfl) | (apply Ru.sliceS; exact rfl; exact rfl; exact rfl; exact rfl; (first | exact fun _ => rfl | exact fun h => nomatch h); omega; omega; omega))) | refine JC.seq ?_ | refine JC.region ?_ | refine JO.nil ?_ | refine JE.thenN ?_ | refine JE.thenR ?_ | refine JE.thenE ?_ | refine JE.blockN ?_ | refine JE.blockR ?_ | refine JE.blockE ?_ | refine JE.blockO rfl ?_ | refine JC.block ?_ | refine JC.ret ?_ | refine JC.skip ?_ | refine JC.exit ?_ | refine JC.label ?_ | refine JC.condT rfl ?_ | refine JC.condF rfl ?_ | (apply JQ.ru; exact rfl; exact rfl; exact rfl; (first | (apply Ru.move; exact rfl) | (apply Ru.loadN; exact rfl; (repeat (first | exact Pick.here | apply Pick.there)); exact rfl) | (apply Ru.load; exact rfl; (repeat (first | exact Pick.here | apply Pick.there)); exact rfl) | (apply Ru.fieldAddr; exact rfl) | (apply Ru.nilP; exact rfl) | (apply Ru.assign; exact rfl) | (apply Ru.lenS; exact rfl) | (apply Ru.lss; exact rfl; exact rfl; (first | exact decT (by omega) | exact decF (by omega))) | (apply Ru.leq; exact rfl; exact rfl; (first | exact decT (by omega) | exact decF (by omega))) | (apply Ru.gtr; exact rfl; exact rfl; (first | exact decT (by omega) | exact decF (by omega))) | (apply Ru.geq; exact rfl; exact rfl; (first | exact decT (by omega) | exact decF (by omega))) | (apply Ru.eql; exact rfl; exact rfl; (first | exact decT (by omega) | exact decF (by omega))) | (apply Ru.neq; exact rfl; exact rfl; (first | exact ndecF (by omega) | exact ndecT (by omega))) | (apply Ru.add; exact rfl; exact rfl; (first | exact wrapI (by omega) (by omega) | exact rfl)) | (apply Ru.sub; exact rfl; exact rfl; (first | exact wrapI (by omega) (by omega) | exact rfl)) | (apply Ru.mul; exact rfl; exact rfl; (first | exact wrapI (by omega) (by omega) | exact rfl)) | (apply Ru.pickT; exact rfl; exact rfl) | (apply Ru.pickF; exact rfl; exact rfl) | (apply Ru.not; exact rfl) | (apply Ru.extractN; exact rfl; exact rfl) | (apply Ru.extract; exact rfl; exact rfl) | (apply Ru.indexAddr; exact rfl; exact rfl; omega; omega) | (apply Ru.indexAddrA; exact rfl; exact rfl; omega; omega) | (apply Ru.loadAN; exact rfl; (repeat (first | exact Pick.here | apply Pick.there)); exact rfl; exact rfl) | (apply Ru.loadA; exact rfl; (repeat (first | exact Pick.here | apply Pick.there)); exact rfl; exact rfl) | (apply Ru.fieldN; exact rfl; exact rfl) | (apply Ru.field; exact rfl; exact rfl) | (apply Ru.fieldA; exact rfl) | (apply Ru.buildN; exact rfl; exact rfl) | (apply Ru.build; exact rfl; exact rfl) | (apply Ru.buildArr; exact rfl; exact rfl) | (apply Ru.makeFunc; exact rfl; exact rfl) | (apply Ru.eqlPN; exact rfl; exact rfl) | (apply Ru.neqPN; exact rfl; exact rfl) | (apply Ru.eqlSN; exact rfl; exact rfl) | (apply Ru.neqSN; exact rfl; exact rfl) | (apply Ru.quoN; exact rfl; exact rfl; omega; omega; omega) | (apply Ru.remN; exact rfl; exact rfl; omega; omega) | (apply Ru.and; exact rfl; exact rfl) | (apply Ru.or; exact rfl; exact rfl) | (apply Ru.xor; exact rfl; exact rfl) | (apply Ru.andNot; exact rfl; exact rfl) | (apply Ru.shl; exact rfl; exact rfl; decide; exact rfl) | (apply Ru.shr; exact rfl; exact rfl; decide; exact rfl) | (apply Ru.neg; exact rfl; exact rfl) | (apply Ru.com; exact rfl; exact rfl) | (apply Ru.conv; exact rfl; exact rfl) | (apply Ru.sliceS; exact rfl; exact rfl; exact rfl; exact rfl; (first | exact fun _ => rfl | exact fun h => nomatch h); omega; omega; omega))) | (apply JO.split; exact rfl; exact rfl; exact rfl; (first | (apply Ru.lss; exact rfl; exact rfl; exact rfl) | (apply Ru.leq; exact rfl; exact rfl; exact rfl) | (apply Ru.gtr; exact rfl; exact rfl; exact rfl) | (apply Ru.geq; exact rfl; exact rfl; exact rfl) | (apply Ru.eql; exact rfl; exact rfl; exact rfl)); all_goals intro _) | (apply JO.splitN; exact rfl; exact rfl; exact rfl; (apply Ru.neq; exact rfl; exact rfl; exact rfl); all_goals intro _) | (apply JQ.split; exact rfl; exact rfl; exact rfl; (first | (apply Ru.lss; exact rfl; exact rfl; exact rfl) | (apply Ru.leq; exact rfl; exact rfl; exact rfl) | (apply Ru.gtr; exact rfl; exact rfl; exact rfl) | (apply Ru.geq; exact rfl; exact rfl; exact rfl) | (apply Ru.eql; exact rfl; exact rfl; exact rfl)); all_goals intro _) | (apply JQ.splitN; exact rfl; exact rfl; exact rfl; (apply Ru.neq; exact rfl; exact rfl; exact rfl); all_goals intro _) | refine JO.guardF rfl rfl rfl rfl rfl rfl rfl ?_ | refine JO.guardF0 rfl rfl rfl rfl rfl rfl ?_ | refine JO.guardT rfl rfl rfl rfl ?_ | refine JQ.skip rfl rfl rfl ?_ | refine JQ.nil ?_ | (apply JO.do; exact rfl; exact rfl; exact rfl; (first | (apply Do.allocN; exact rfl) | apply Do.alloc); rintro _ _ ⟨_, rfl, rfl⟩) | (apply JO.do; exact rfl; exact rfl; exact rfl; (first | (apply Do.boxN; exact rfl; exact rfl) | (apply Do.box; exact rfl)); rintro _ _ ⟨_, rfl, rfl⟩) | (apply JO.do; exact rfl; exact rfl; exact rfl; (first | (apply Do.buildSliceN; exact rfl; exact rfl; exact rfl; exact rfl) | (apply Do.buildSlice; exact rfl; exact rfl; exact rfl; exact rfl)); rintro _ _ ⟨_, rfl, rfl⟩) | (apply JO.do; exact rfl; exact rfl; exact rfl; apply Do.makeMap; rintro _ _ ⟨_, rfl, rfl⟩) | (apply JO.do0; exact rfl; exact rfl; (first | (apply Do.storeN; exact rfl; exact rfl; exact rfl; (repeat (first | exact Pick.here | apply Pick.there)); exact rfl; exact rfl) | (apply Do.store; exact rfl; exact rfl; exact rfl; (repeat (first | exact Pick.here | apply Pick.there)); exact rfl)); rintro _ _ ⟨rfl, rfl⟩) | (apply JO.do0; exact rfl; exact rfl; (first | (apply Do.storeAN; exact rfl; exact rfl; (repeat (first | exact Pick.here | apply Pick.there)); exact rfl; exact rfl; exact rfl; exact rfl) | (apply Do.storeA; exact rfl; exact rfl; (repeat (first | exact Pick.here | apply Pick.there)); exact rfl; exact rfl; exact rfl)); rintro _ _ ⟨rfl, rfl⟩) | refine JC.regionQ mixed (by decide +kernel) ?_ | (apply JE.done1; exact rfl; (first | (apply Res.tmp; exact rfl) | (apply Res.cell; exact rfl; (repeat (first | exact Pick.here | apply Pick.there)); exact rfl) | (apply Res.cellAN; exact rfl; (repeat (first | exact Pick.here | apply Pick.there)); exact rfl; exact rfl) | (apply Res.cellA; exact rfl; (repeat (first | exact Pick.here | apply Pick.there)); exact rfl; exact rfl))) | (apply JE.done2; exact rfl; (first | (apply Res.tmp; exact rfl) | (apply Res.cell; exact rfl; (repeat (first | exact Pick.here | apply Pick.there)); exact rfl) | (apply Res.cellAN; exact rfl; (repeat (first | exact Pick.here | apply Pick.there)); exact rfl; exact rfl) | (apply Res.cellA; exact rfl; (repeat (first | exact Pick.here | apply Pick.there)); exact rfl; exact rfl)); (first | (apply Res.tmp; exact rfl) | (apply Res.cell; exact rfl; (repeat (first | exact Pick.here | apply Pick.there)); exact rfl) | (apply Res.cellAN; exact rfl; (repeat (first | exact Pick.here | apply Pick.there)); exact rfl; exact rfl) | (apply Res.cellA; exact rfl; (repeat (first | exact Pick.here | apply Pick.there)); exact rfl; exact rfl))) | refine JE.done0 rfl ?_) | ((first | (apply JO.do; exact rfl; exact rfl; exact rfl; (apply Do.call; exact rfl; exact geo_row _); rintro _ _ ⟨hv, rfl⟩) | (apply JQ.call; exact rfl; exact rfl; exact rfl; exact geo_row _; (rintro _ _ ⟨hv, rfl⟩; exact ⟨rfl, rfl⟩))); rw [if_neg h] at hv; subst hv))
    refine finD (finS ?_); exact ⟨by by_cases h0 : k = 0; (subst h0; rfl); (unfold epSize; rw [if_neg (by omega)]), rfl⟩

theorem geo_Eeprom (k : Int) [hg : InG F] : Fn Tryz.prog σ 108 #[int k] F (fun v l => v = int (epSize k) ∧ l = F) := by
  refine Fn.of Tryz.func108 rfl Tryz.ntmps108 rfl ?_
  repeat' (first | (first | (apply JO.ru; exact rfl; exact rfl; exact rfl; (first | (apply Ru.move; exact rfl) | (apply Ru.loadN; exact rfl; (repeat (first | exact Pick.here | apply Pick.there)); exact rfl) | (apply Ru.load; exact rfl; (repeat (first | exact Pick.here | apply Pick.there)); exact rfl) | (apply Ru.fieldAddr; exact rfl) | (apply Ru.nilP; exact rfl) | (apply Ru.assign; exact rfl) | (apply Ru.lenS; exact rfl) | (apply Ru.lss; exact rfl; exact rfl; (first | exact decT (by omega) | exact decF (by omega))) | (apply Ru.leq; exact rfl; exact rfl; (first | exact decT (by omega) | exact decF (by omega))) | (apply Ru.gtr; exact rfl; exact rfl; (first | exact decT (by omega) | exact decF (by omega))) | (apply Ru.geq; exact rfl; exact rfl; (first | exact decT (by omega) | exact decF (by omega))) | (apply Ru.eql; exact rfl; exact rfl; (first | exact decT (by omega) | exact decF (by omega))) | (apply Ru.neq; exact rfl; exact rfl; (first | exact ndecF (by omega) | exact ndecT (by omega))) | (apply Ru.add; exact rfl; exact rfl; (first | exact wrapI (by omega) (by omega) | exact rfl)) | (apply Ru.sub; exact rfl; exact rfl; (first | exact wrapI (by omega) (by omega) | exact rfl)) | (apply Ru.mul; exact rfl; exact rfl; (first | exact wrapI (by omega) (by omega) | exact rfl)) | (apply Ru.pickT; exact rfl; exact rfl) | (apply Ru.pickF; exact rfl; exact rfl) | (apply Ru.not; exact rfl) | (apply Ru.extractN; exact rfl; exact rfl) | (apply Ru.extract; exact rfl; exact rfl) | (apply Ru.indexAddr; exact rfl; exact rfl; omega; omega) | (apply Ru.indexAddrA; exact rfl; exact rfl; omega; omega) | (apply Ru.loadAN; exact rfl; (repeat (first | exact Pick.here | apply Pick.there)); exact rfl; exact rfl) | (apply Ru.loadA; exact rfl; (repeat (first | exact Pick.here | apply Pick.there)); exact rfl; exact rfl) | (apply Ru.fieldN; exact rfl; exact rfl) | (apply Ru.field; exact rfl; exact rfl) | (apply Ru.fieldA; exact rfl) | (apply Ru.buildN; exact rfl; exact rfl) | (apply Ru.build; exact rfl; exact rfl) | (apply Ru.buildArr; exact rfl; exact rfl) | (apply Ru.makeFunc; exact rfl; exact rfl) | (apply Ru.eqlPN; exact rfl; exact rfl) | (apply Ru.neqPN; exact rfl; exact rfl) | (apply Ru.eqlSN; exact rfl; exact rfl) | (apply Ru.neqSN; exact rfl; exact rfl) | (apply Ru.quoN; exact rfl; exact rfl; omega; omega; omega) | (apply Ru.remN; exact rfl; exact rfl; omega; omega) | (apply Ru.and; exact rfl; exact rfl) | (apply Ru.or; exact rfl; exact rfl) | (apply Ru.xor; exact rfl; exact rfl) | (apply Ru.andNot; exact rfl; exact rfl) | (apply Ru.shl; exact rfl; exact rfl; decide; exact rfl) | (apply Ru.shr; exact rfl; exact rfl; decide; exact rfl) | (apply Ru.neg; exact rfl; exact rfl) | (apply Ru.com; exact rfl; exact rfl) | (apply Ru.conv; exact rfl; exact rfl) | (apply Ru.sliceS; exact rfl; exact rfl; exact rfl; exact rfl; (first | exact fun _ => rfl | exact fun h => nomatch h); omega; omega; omega))) | refine JC.seq ?_ | refine JC.region ?_ | refine JO.nil ?_ | refine JE.thenN ?_ | refine JE.thenR ?_ | refine JE.thenE ?_ | refine JE.blockN ?_ | refine JE.blockR ?_ | refine JE.blockE ?_ | refine JE.blockO rfl ?_ | refine JC.block ?_ | refine JC.ret ?_ | refine JC.skip ?_ | refine JC.exit ?_ | refine JC.label ?_ | refine JC.condT rfl ?_ | refine JC.condF rfl ?_ | (apply JQ.ru; exact rfl; exact rfl; exact rfl; (first | (apply Ru.move; exact rfl) | (apply Ru.loadN; exact rfl; (repeat (first | exact Pick.here | apply Pick.there)); exact rfl) | (apply Ru.load; exact rfl; (repeat (first | exact Pick.here | apply Pick.there)); exact rfl) | (apply Ru.fieldAddr; exact rfl) | (apply Ru.nilP; exact rfl) | (apply Ru.assign; exact rfl) | (apply Ru.lenS; exact rfl) | (apply Ru.lss; exact rfl; exact rfl; (first | exact decT (by omega) | exact decF (by omega))) | (apply Ru.leq; exact rfl; exact rfl; (first | exact decT (by omega) | exact decF (by omega))) | (apply Ru.gtr; exact rfl; exact rfl; (first | exact decT (by omega) | exact decF (by omega))) | (apply Ru.geq; exact rfl; exact rfl; (first | exact decT (by omega) | exact decF (by omega))) | (apply Ru.eql; exact rfl; exact rfl; (first | exact decT (by omega) | exact decF (by omega))) | (apply Ru.neq; exact rfl; exact rfl; (first | exact ndecF (by omega) | exact ndecT (by omega))) | (apply Ru.add; exact rfl; exact rfl; (first | exact wrapI (by omega) (by omega) | exact rfl)) | (apply Ru.sub; exact rfl; exact rfl; (first | exact wrapI (by omega) (by omega) | exact rfl)) | (apply Ru.mul; exact rfl; exact rfl; (first | exact wrapI (by omega) (by omega) | exact rfl)) | (apply Ru.pickT; exact rfl; exact rfl) | (apply Ru.pickF; exact rfl; exact rfl) | (apply Ru.not; exact rfl) | (apply Ru.extractN; exact rfl; exact rfl) | (apply Ru.extract; exact rfl; exact rfl) | (apply Ru.indexAddr; exact rfl; exact rfl; omega; omega) | (apply Ru.indexAddrA; exact rfl; exact rfl; omega; omega) | (apply Ru.loadAN; exact rfl; (repeat (first | exact Pick.here | apply Pick.there)); exact rfl; exact rfl) | (apply Ru.loadA; exact rfl; (repeat (first | exact Pick.here | apply Pick.there)); exact rfl; exact rfl) | (apply Ru.fieldN; exact rfl; exact rfl) | (apply Ru.field; exact rfl; exact rfl) | (apply Ru.fieldA; exact rfl) | (apply Ru.buildN; exact rfl; exact rfl) | (apply Ru.build; exact rfl; exact rfl) | (apply Ru.buildArr; exact rfl; exact rfl) | (apply Ru.makeFunc; exact rfl; exact rfl) | (apply Ru.eqlPN; exact rfl; exact rfl) | (apply Ru.neqPN; exact rfl; exact rfl) | (apply Ru.eqlSN; exact rfl; exact rfl) | (apply Ru.neqSN; exact rfl; exact rfl) | (apply Ru.quoN; exact rfl; exact rfl; omega; omega; omega) | (apply Ru.remN; exact rfl; exact rfl; omega; omega) | (apply Ru.and; exact rfl; exact rfl) | (apply Ru.or; exact rfl; exact rfl) | (apply Ru.xor; exact rfl; exact rfl) | (apply Ru.andNot; exact rfl; exact rfl) | (apply Ru.shl; exact rfl; exact rfl; decide; exact rfl) | (apply Ru.shr; exact rfl; exact rfl; decide; exact rfl) | (apply Ru.neg; exact rfl; exact rfl) | (apply Ru.com; exact rfl; exact rfl) | (apply Ru.conv; exact rfl; exact rfl) | (apply Ru.sliceS; exact rfl; exact rfl; exact rfl; exact rfl; (first | exact fun _ => rfl | exact fun h => nomatch h); omega; omega; omega))) | (apply JO.split; exact rfl; exact rfl; exact rfl; (first | (apply Ru.lss; exact rfl; exact rfl; exact rfl) | (apply Ru.leq; exact rfl; exact rfl; exact rfl) | (apply Ru.gtr; exact rfl; exact rfl; exact rfl) | (apply Ru.geq; exact rfl; exact rfl; exact rfl) | (apply Ru.eql; exact rfl; exact rfl; exact rfl)); all_goals intro _) | (apply JO.splitN; exact rfl; exact rfl; exact rfl; (apply Ru.neq; exact rfl; exact rfl; exact rfl); all_goals intro _) | (apply JQ.split; exact rfl; exact rfl; exact rfl; (first | (apply Ru.lss; exact rfl; exact rfl; exact rfl) | (apply Ru.leq; exact rfl; exact rfl; exact rfl) | (apply Ru.gtr; exact rfl; exact rfl; exact rfl) | (apply Ru.geq; exact rfl; exact rfl; exact rfl) | (apply Ru.eql; exact rfl; exact rfl; exact rfl)); all_goals intro _) | (apply JQ.splitN; exact rfl; exact rfl; exact rfl; (apply Ru.neq; exact rfl; exact rfl; exact rfl); all_goals intro _) | refine JO.guardF rfl rfl rfl rfl rfl rfl rfl ?_ | refine JO.guardF0 rfl rfl rfl rfl rfl rfl ?_ | refine JO.guardT rfl rfl rfl rfl ?_ | refine JQ.skip rfl rfl rfl ?_ | refine JQ.nil ?_ | (apply JO.do; exact rfl; exact rfl; exact rfl; (first | (apply Do.allocN; exact rfl) | apply Do.alloc); rintro _ _ ⟨_, rfl, rfl⟩) | (apply JO.do; exact rfl; exact rfl; exact rfl; (first | (apply Do.boxN; exact rfl; exact rfl) | (apply Do.box; exact rfl)); rintro _ _ ⟨_, rfl, rfl⟩) | (apply JO.do; exact rfl; exact rfl; exact rfl; (first | (apply Do.buildSliceN; exact rfl; exact rfl; exact rfl; exact rfl) | (apply Do.buildSlice; exact rfl; exact rfl; exact rfl; exact rfl)); rintro _ _ ⟨_, rfl, rfl⟩) | (apply JO.do; exact rfl; exact rfl; exact rfl; apply Do.makeMap; rintro _ _ ⟨_, rfl, rfl⟩) | (apply JO.do0; exact rfl; exact rfl; (first | (apply Do.storeN; exact rfl; exact rfl; exact rfl; (repeat (first | exact Pick.here | apply Pick.there)); exact rfl; exact rfl) | (apply Do.store; exact rfl; exact rfl; exact rfl; (repeat (first | exact Pick.here | apply Pick.there)); exact rfl)); rintro _ _ ⟨rfl, rfl⟩) | (apply JO.do0; exact rfl; exact rfl; (first | (apply Do.storeAN; exact rfl; exact rfl; (repeat (first | exact Pick.here | apply Pick.there)); exact rfl; exact rfl; exact rfl; exact rfl) | (apply Do.storeA; exact rfl; exact rfl; (repeat (first | exact Pick.here | apply Pick.there)); exact rfl; exact rfl; exact rfl)); rintro _ _ ⟨rfl, rfl⟩) | refine JC.regionQ mixed (by decide +kernel) ?_ | (apply JE.done1; exact rfl; (first | (apply Res.tmp; exact rfl) | (apply Res.cell; exact rfl; (repeat (first | exact Pick.here | apply Pick.there)); exact rfl) | (apply Res.cellAN; exact rfl; (repeat (first | exact Pick.here | apply Pick.there)); exact rfl; exact rfl) | (apply Res.cellA; exact rfl; (repeat (first | exact Pick.here | apply Pick.there)); exact rfl; exact rfl))) | (apply JE.done2; exact rfl; (first | (apply Res.tmp; exact rfl) | (apply Res.cell; exact rfl; (repeat (first | exact Pick.here | apply Pick.there)); exact rfl) | (apply Res.cellAN; exact rfl; (repeat (first | exact Pick.here | apply Pick.there)); exact rfl; exact rfl) | (apply Res.cellA; exact rfl; (repeat (first | exact Pick.here | apply Pick.there)); exact rfl; exact rfl)); (first | (apply Res.tmp; exact rfl) | (apply Res.cell; exact rfl; (repeat (first | exact Pick.here | apply Pick.there)); exact rfl) | (apply Res.cellAN; exact rfl; (repeat (first | exact Pick.here | apply Pick.there)); exact rfl; exact rfl) | (apply Res.cellA; exact rfl; (repeat (first | exact Pick.here | apply Pick.there)); exact rfl; exact rfl))) | refine JE.done0 rfl ?_) | (first | (apply JO.do; exact rfl; exact rfl; exact rfl; (apply Do.call; exact rfl; exact geo_power0 _); rintro _ _ ⟨rfl, hq⟩; obtain rfl := hq.symm) | (apply JQ.call; exact rfl; exact rfl; exact rfl; exact geo_power0 _; (rintro _ _ ⟨rfl, rfl⟩; exact ⟨rfl, rfl⟩))))
  refine finS ?_; exact ⟨rfl, rfl⟩
end Go.Sep
namespace Go.Sep
open Go Go.Proofs
attribute [local irreducible] JO JC JE JA JQ JB JI Mid Inv Weak ownS Ru Do Fn Sat Pick Take arr pt star ex Holds bodyPost Post Exit.then Exit.inBlock Res
variable {σ : Sig} {F : List HP}
set_option maxHeartbeats 1000000 in
theorem geo_Right (e f s : Int) : Fn Tryz.prog σ 100 #[geoV e f s] F (fun v l => v = .bool (rightG e f s) ∧ l = F) := by
  refine Fn.of Tryz.func100 rfl Tryz.ntmps100 rfl ?_
  by_cases h1 : within e 10 = true
  · by_cases h2 : within f 64 = true
    · by_cases h3 : within s 128 = true
      · repeat' (first | (first | (apply JO.ru; exact rfl; exact rfl; exact rfl; (first | (apply Ru.move; exact rfl) | (apply Ru.loadN; exact rfl; (repeat (first | exact Pick.here | apply Pick.there)); exact rfl) | (apply Ru.fieldAddr; exact rfl) | (apply Ru.assign; exact rfl) | (apply Ru.pickT; exact rfl; exact rfl))) | refine JC.seq ?_ | refine JC.region ?_ | refine JO.nil ?_ | refine JE.thenN ?_ | refine JC.ret ?_ | refine JO.guardT rfl rfl rfl rfl ?_ | (apply JO.do; exact rfl; exact rfl; exact rfl; (first | (apply Do.boxN; exact rfl; exact rfl) | (apply Do.box; exact rfl)); rintro _ _ ⟨_, rfl, rfl⟩) | (apply JE.done1; exact rfl; (first | (apply Res.tmp; exact rfl) | (apply Res.cell; exact rfl; (repeat (first | exact Pick.here | apply Pick.there)); exact rfl) | (apply Res.cellAN; exact rfl; (repeat (first | exact Pick.here | apply Pick.there)); exact rfl; exact rfl) | (apply Res.cellA; exact rfl; (repeat (first | exact Pick.here | apply Pick.there)); exact rfl; exact rfl)))) | ((first | (apply JO.do; exact rfl; exact rfl; exact rfl; (apply Do.call; exact rfl; exact geo_within _ _); rintro _ _ ⟨rfl, hq⟩; obtain rfl := hq.symm) | (apply JQ.call; exact rfl; exact rfl; exact rfl; exact geo_within _ _; (rintro _ _ ⟨rfl, rfl⟩; exact ⟨rfl, rfl⟩))); first | rw [h1] | rw [h2] | rw [h3]))
        refine finD (finS ?_); exact ⟨by simp [within] at h1 h2 h3; simp [rightG]; omega, rfl⟩
      · simp only [Bool.not_eq_true] at h3
        repeat' (first | (first | (apply JO.ru; exact rfl; exact rfl; exact rfl; (first | (apply Ru.move; exact rfl) | (apply Ru.loadN; exact rfl; (repeat (first | exact Pick.here | apply Pick.there)); exact rfl) | (apply Ru.fieldAddr; exact rfl) | (apply Ru.assign; exact rfl) | (apply Ru.pickT; exact rfl; exact rfl))) | refine JC.seq ?_ | refine JC.region ?_ | refine JO.nil ?_ | refine JE.thenN ?_ | refine JC.ret ?_ | refine JO.guardT rfl rfl rfl rfl ?_ | (apply JO.do; exact rfl; exact rfl; exact rfl; (first | (apply Do.boxN; exact rfl; exact rfl) | (apply Do.box; exact rfl)); rintro _ _ ⟨_, rfl, rfl⟩) | (apply JE.done1; exact rfl; (first | (apply Res.tmp; exact rfl) | (apply Res.cell; exact rfl; (repeat (first | exact Pick.here | apply Pick.there)); exact rfl) | (apply Res.cellAN; exact rfl; (repeat (first | exact Pick.here | apply Pick.there)); exact rfl; exact rfl) | (apply Res.cellA; exact rfl; (repeat (first | exact Pick.here | apply Pick.there)); exact rfl; exact rfl)))) | ((first | (apply JO.do; exact rfl; exact rfl; exact rfl; (apply Do.call; exact rfl; exact geo_within _ _); rintro _ _ ⟨rfl, hq⟩; obtain rfl := hq.symm) | (apply JQ.call; exact rfl; exact rfl; exact rfl; exact geo_within _ _; (rintro _ _ ⟨rfl, rfl⟩; exact ⟨rfl, rfl⟩))); first | rw [h1] | rw [h2] | rw [h3]))
        refine finD (finS ?_); exact ⟨by simp [within] at h1 h2 h3; simp [rightG]; omega, rfl⟩
    · simp only [Bool.not_eq_true] at h2
      repeat' (first | (first | (apply JO.ru; exact rfl; exact rfl; exact rfl; (first | (apply Ru.move; exact rfl) | (apply Ru.loadN; exact rfl; (repeat (first | exact Pick.here | apply Pick.there)); exact rfl) | (apply Ru.fieldAddr; exact rfl) | (apply Ru.assign; exact rfl) | (apply Ru.pickT; exact rfl; exact rfl) | (apply Ru.pickF; exact rfl; exact rfl))) | refine JC.seq ?_ | refine JC.region ?_ | refine JO.nil ?_ | refine JE.thenN ?_ | refine JC.ret ?_ | refine JO.guardF rfl rfl rfl rfl rfl rfl rfl ?_ | refine JO.guardT rfl rfl rfl rfl ?_ | (apply JO.do; exact rfl; exact rfl; exact rfl; (first | (apply Do.boxN; exact rfl; exact rfl) | (apply Do.box; exact rfl)); rintro _ _ ⟨_, rfl, rfl⟩) | (apply JE.done1; exact rfl; (first | (apply Res.tmp; exact rfl) | (apply Res.cell; exact rfl; (repeat (first | exact Pick.here | apply Pick.there)); exact rfl) | (apply Res.cellAN; exact rfl; (repeat (first | exact Pick.here | apply Pick.there)); exact rfl; exact rfl) | (apply Res.cellA; exact rfl; (repeat (first | exact Pick.here | apply Pick.there)); exact rfl; exact rfl)))) | ((first | (apply JO.do; exact rfl; exact rfl; exact rfl; (apply Do.call; exact rfl; exact geo_within _ _); rintro _ _ ⟨rfl, hq⟩; obtain rfl := hq.symm) | (apply JQ.call; exact rfl; exact rfl; exact rfl; exact geo_within _ _; (rintro _ _ ⟨rfl, rfl⟩; exact ⟨rfl, rfl⟩))); first | rw [h1] | rw [h2]))
      refine finD (finS ?_); exact ⟨by simp [within] at h1 h2; simp [rightG]; omega, rfl⟩
  · simp only [Bool.not_eq_true] at h1
    repeat' (first | (first | (apply JO.ru; exact rfl; exact rfl; exact rfl; (first | (apply Ru.move; exact rfl) | (apply Ru.loadN; exact rfl; (repeat (first | exact Pick.here | apply Pick.there)); exact rfl) | (apply Ru.fieldAddr; exact rfl) | (apply Ru.assign; exact rfl) | (apply Ru.pickF; exact rfl; exact rfl))) | refine JC.seq ?_ | refine JC.region ?_ | refine JO.nil ?_ | refine JE.thenN ?_ | refine JC.ret ?_ | refine JO.guardF rfl rfl rfl rfl rfl rfl rfl ?_ | (apply JO.do; exact rfl; exact rfl; exact rfl; (first | (apply Do.boxN; exact rfl; exact rfl) | (apply Do.box; exact rfl)); rintro _ _ ⟨_, rfl, rfl⟩) | (apply JE.done1; exact rfl; (first | (apply Res.tmp; exact rfl) | (apply Res.cell; exact rfl; (repeat (first | exact Pick.here | apply Pick.there)); exact rfl) | (apply Res.cellAN; exact rfl; (repeat (first | exact Pick.here | apply Pick.there)); exact rfl; exact rfl) | (apply Res.cellA; exact rfl; (repeat (first | exact Pick.here | apply Pick.there)); exact rfl; exact rfl)))) | ((first | (apply JO.do; exact rfl; exact rfl; exact rfl; (apply Do.call; exact rfl; exact geo_within _ _); rintro _ _ ⟨rfl, hq⟩; obtain rfl := hq.symm) | (apply JQ.call; exact rfl; exact rfl; exact rfl; exact geo_within _ _; (rintro _ _ ⟨rfl, rfl⟩; exact ⟨rfl, rfl⟩))); rw [h1]))
    refine finD (finS ?_); exact ⟨by simp [within] at h1; simp [rightG]; omega, rfl⟩

set_option maxHeartbeats 1000000 in
theorem geo_Total (e f s : Int) [hg : InG F] : Fn Tryz.prog σ 63 #[geoV e f s] F (fun v l => v = int (totG e f s) ∧ l = F) := by
  refine Fn.of Tryz.func63 rfl Tryz.ntmps63 rfl ?_
  have b1 := epSize_bd e
  have b2 := flSize_bd f
  have b3 := srSize_bd s
  unfold totG
  by_cases h : rightG e f s = true
  · repeat' (first | (first | (apply JO.ru; exact rfl; exact rfl; exact rfl; (first | (apply Ru.assign; exact rfl) | (apply Ru.not; exact rfl) | (apply Ru.loadAN; exact rfl; (repeat (first | exact Pick.here | apply Pick.there)); exact rfl; exact rfl))) | refine JC.seq ?_ | refine JC.region ?_ | refine JO.nil ?_ | refine JE.thenN ?_ | refine JC.ret ?_ | refine JC.skip ?_ | refine JC.condF rfl ?_ | (apply JQ.ru; exact rfl; exact rfl; exact rfl; (first | (apply Ru.loadN; exact rfl; (repeat (first | exact Pick.here | apply Pick.there)); exact rfl) | (apply Ru.fieldAddr; exact rfl) | (apply Ru.assign; exact rfl) | (apply Ru.add; exact rfl; exact rfl; (first | exact wrapI (by omega) (by omega) | exact rfl)))) | refine JQ.nil ?_ | (apply JO.do; exact rfl; exact rfl; exact rfl; (first | (apply Do.boxN; exact rfl; exact rfl) | (apply Do.box; exact rfl)); rintro _ _ ⟨_, rfl, rfl⟩) | refine JC.regionQ mixed (by decide +kernel) ?_ | (apply JE.done1; exact rfl; (first | (apply Res.tmp; exact rfl) | (apply Res.cell; exact rfl; (repeat (first | exact Pick.here | apply Pick.there)); exact rfl) | (apply Res.cellAN; exact rfl; (repeat (first | exact Pick.here | apply Pick.there)); exact rfl; exact rfl) | (apply Res.cellA; exact rfl; (repeat (first | exact Pick.here | apply Pick.there)); exact rfl; exact rfl)))) | ((first | (apply JO.do; exact rfl; exact rfl; exact rfl; (apply Do.call; exact rfl; exact geo_Right _ _ _); rintro _ _ ⟨rfl, hq⟩; obtain rfl := hq.symm) | (apply JQ.call; exact rfl; exact rfl; exact rfl; exact geo_Right _ _ _; (rintro _ _ ⟨rfl, rfl⟩; exact ⟨rfl, rfl⟩))); rw [h]) | (first | (apply JO.do; exact rfl; exact rfl; exact rfl; (apply Do.call; exact rfl; exact geo_Eeprom _); rintro _ _ ⟨rfl, hq⟩; obtain rfl := hq.symm) | (apply JQ.call; exact rfl; exact rfl; exact rfl; exact geo_Eeprom _; (rintro _ _ ⟨rfl, rfl⟩; exact ⟨rfl, rfl⟩))) | (first | (apply JO.do; exact rfl; exact rfl; exact rfl; (apply Do.call; exact rfl; exact geo_Flash _); rintro _ _ ⟨rfl, hq⟩; obtain rfl := hq.symm) | (apply JQ.call; exact rfl; exact rfl; exact rfl; exact geo_Flash _; (rintro _ _ ⟨rfl, rfl⟩; exact ⟨rfl, rfl⟩))) | (first | (apply JO.do; exact rfl; exact rfl; exact rfl; (apply Do.call; exact rfl; exact geo_Sram _); rintro _ _ ⟨rfl, hq⟩; obtain rfl := hq.symm) | (apply JQ.call; exact rfl; exact rfl; exact rfl; exact geo_Sram _; (rintro _ _ ⟨rfl, rfl⟩; exact ⟨rfl, rfl⟩))))
    refine finD (finS ?_); exact ⟨rfl, rfl⟩
  · simp only [Bool.not_eq_true] at h
    repeat' (first | (first | (apply JO.ru; exact rfl; exact rfl; exact rfl; (first | (apply Ru.assign; exact rfl) | (apply Ru.not; exact rfl) | (apply Ru.loadAN; exact rfl; (repeat (first | exact Pick.here | apply Pick.there)); exact rfl; exact rfl))) | refine JC.seq ?_ | refine JC.region ?_ | refine JO.nil ?_ | refine JE.thenN ?_ | refine JE.thenR ?_ | refine JC.ret ?_ | refine JC.condT rfl ?_ | (apply JO.do; exact rfl; exact rfl; exact rfl; (first | (apply Do.boxN; exact rfl; exact rfl) | (apply Do.box; exact rfl)); rintro _ _ ⟨_, rfl, rfl⟩) | (apply JE.done1; exact rfl; (first | (apply Res.tmp; exact rfl) | (apply Res.cell; exact rfl; (repeat (first | exact Pick.here | apply Pick.there)); exact rfl) | (apply Res.cellAN; exact rfl; (repeat (first | exact Pick.here | apply Pick.there)); exact rfl; exact rfl) | (apply Res.cellA; exact rfl; (repeat (first | exact Pick.here | apply Pick.there)); exact rfl; exact rfl)))) | ((first | (apply JO.do; exact rfl; exact rfl; exact rfl; (apply Do.call; exact rfl; exact geo_Right _ _ _); rintro _ _ ⟨rfl, hq⟩; obtain rfl := hq.symm) | (apply JQ.call; exact rfl; exact rfl; exact rfl; exact geo_Right _ _ _; (rintro _ _ ⟨rfl, rfl⟩; exact ⟨rfl, rfl⟩))); rw [h]))
    refine finD (finS ?_); exact ⟨rfl, rfl⟩

set_option maxHeartbeats 1000000 in
theorem ref_Right (e f s : Int) : Fn Tryz.prog σ 38 #[geoV e f s] F (fun v l => v = .bool (rightG e f s) ∧ l = F) := by
  refine Fn.of Tryz.func38 rfl Tryz.ntmps38 rfl ?_
  repeat' (first | (apply JO.ru; exact rfl; exact rfl; exact rfl; (first | (apply Ru.move; exact rfl) | (apply Ru.loadN; exact rfl; (repeat (first | exact Pick.here | apply Pick.there)); exact rfl) | (apply Ru.fieldAddr; exact rfl) | (apply Ru.assign; exact rfl) | (apply Ru.pickT; exact rfl; exact rfl) | (apply Ru.pickF; exact rfl; exact rfl))) | refine JC.seq ?_ | refine JC.region ?_ | refine JO.nil ?_ | refine JE.thenN ?_ | refine JC.ret ?_ | (apply JO.split; exact rfl; exact rfl; exact rfl; (first | (apply Ru.leq; exact rfl; exact rfl; exact rfl) | (apply Ru.geq; exact rfl; exact rfl; exact rfl)); all_goals intro _) | refine JO.guardF rfl rfl rfl rfl rfl rfl rfl ?_ | refine JO.guardT rfl rfl rfl rfl ?_ | (apply JO.do; exact rfl; exact rfl; exact rfl; (first | (apply Do.boxN; exact rfl; exact rfl) | (apply Do.box; exact rfl)); rintro _ _ ⟨_, rfl, rfl⟩) | (apply JE.done1; exact rfl; (first | (apply Res.tmp; exact rfl) | (apply Res.cell; exact rfl; (repeat (first | exact Pick.here | apply Pick.there)); exact rfl) | (apply Res.cellAN; exact rfl; (repeat (first | exact Pick.here | apply Pick.there)); exact rfl; exact rfl) | (apply Res.cellA; exact rfl; (repeat (first | exact Pick.here | apply Pick.there)); exact rfl; exact rfl))))
  all_goals (refine finD (finS ?_); exact ⟨by simp [rightG]; omega, rfl⟩)
end Go.Sep
/- The document's numbers of chips; how many sectors bytes need, and slots. -/
namespace Go.Sep
open Go Go.Proofs
attribute [local irreducible] JO JC JE JA JQ JB JI Mid Inv Weak ownS Ru Do Fn Sat Pick Take arr pt star ex Holds bodyPost Post Exit.then Exit.inBlock Res
variable {σ : Sig} {F : List HP}
theorem ref_at (b E : Nat) (xs : List Int) (k : Int) (hx : xs.length = 10) {l r : List HP} (hp : Pick (arr b E (xs.map int)) l r) : Fn Tryz.prog σ 131 #[.slice (some ⟨b, 0, none⟩) 10 10, int k] l (fun v l' => v = int (if 1 ≤ k ∧ k ≤ 10 then xs.getD (k.toNat - 1) 0 else 0) ∧ l' = l) := by
  refine Fn.of Tryz.func131 rfl Tryz.ntmps131 rfl ?_
  by_cases h : 1 ≤ k ∧ k ≤ 10
  · rw [if_pos h]
    repeat' (first | (apply JO.ru; exact rfl; exact rfl; exact rfl; (first | (apply Ru.move; exact rfl) | (apply Ru.assign; exact rfl) | (apply Ru.lss; exact rfl; exact rfl; (first | exact decT (by omega) | exact decF (by omega))) | (apply Ru.gtr; exact rfl; exact rfl; (first | exact decT (by omega) | exact decF (by omega))) | (apply Ru.sub; exact rfl; exact rfl; (first | exact wrapI (by omega) (by omega) | exact rfl)) | (apply Ru.pickF; exact rfl; exact rfl) | (apply Ru.indexAddr; exact rfl; exact rfl; omega; omega))) | refine JC.seq ?_ | refine JC.region ?_ | refine JO.nil ?_ | refine JE.thenN ?_ | refine JC.skip ?_ | refine JC.condF rfl ?_ | refine JO.guardT rfl rfl rfl rfl ?_)
    apply JO.ru; exact rfl; exact rfl; exact rfl
    · apply Ru.load; exact rfl; exact hp
      show (xs.map int)[0 + (k - 1).toNat * 1]? = some (int (xs.getD (k.toNat - 1) 0))
      have e : 0 + (k - 1).toNat * 1 = k.toNat - 1 := by omega
      have h2 : k.toNat - 1 < xs.length := by omega
      rw [e, List.getElem?_map, List.getElem?_eq_getElem h2, List.getD_eq_getElem?_getD, List.getElem?_eq_getElem h2]
      rfl
    repeat' (first | (apply JO.ru; exact rfl; exact rfl; exact rfl; ((apply Ru.assign; exact rfl))) | refine JO.nil ?_ | refine JE.thenN ?_ | refine JC.ret ?_ | (apply JE.done1; exact rfl; (first | (apply Res.tmp; exact rfl) | (apply Res.cell; exact rfl; (repeat (first | exact Pick.here | apply Pick.there)); exact rfl) | (apply Res.cellAN; exact rfl; (repeat (first | exact Pick.here | apply Pick.there)); exact rfl; exact rfl) | (apply Res.cellA; exact rfl; (repeat (first | exact Pick.here | apply Pick.there)); exact rfl; exact rfl))))
    refine finS ?_; exact ⟨rfl, rfl⟩
  · rw [if_neg h]
    repeat' (first | (apply JO.ru; exact rfl; exact rfl; exact rfl; (first | (apply Ru.move; exact rfl) | (apply Ru.assign; exact rfl) | (apply Ru.gtr; exact rfl; exact rfl; (first | exact decT (by omega) | exact decF (by omega))) | (apply Ru.pickT; exact rfl; exact rfl) | (apply Ru.pickF; exact rfl; exact rfl))) | refine JC.seq ?_ | refine JC.region ?_ | refine JO.nil ?_ | refine JE.thenN ?_ | refine JE.thenR ?_ | refine JC.ret ?_ | refine JC.condT rfl ?_ | (apply JO.split; exact rfl; exact rfl; exact rfl; ((apply Ru.lss; exact rfl; exact rfl; exact rfl)); all_goals intro _) | refine JO.guardF rfl rfl rfl rfl rfl rfl rfl ?_ | refine JO.guardT rfl rfl rfl rfl ?_ | (apply JE.done1; exact rfl; (first | (apply Res.tmp; exact rfl) | (apply Res.cell; exact rfl; (repeat (first | exact Pick.here | apply Pick.there)); exact rfl) | (apply Res.cellAN; exact rfl; (repeat (first | exact Pick.here | apply Pick.there)); exact rfl; exact rfl) | (apply Res.cellA; exact rfl; (repeat (first | exact Pick.here | apply Pick.there)); exact rfl; exact rfl))))
    all_goals (refine finS ?_; exact ⟨rfl, rfl⟩)

theorem epT_at {k : Int} : (if 1 ≤ k ∧ k ≤ 10 then ([128, 256, 512, 1024, 2048, 4096, 8192, 16384, 32768, 65536] : List Int).getD (k.toNat - 1) 0 else 0) = epSize k := by
  by_cases h : 1 ≤ k ∧ k ≤ 10
  · rw [if_pos h]
    exact ten (p := fun k => ([128, 256, 512, 1024, 2048, 4096, 8192, 16384, 32768, 65536] : List Int).getD (k.toNat - 1) 0 = epSize k) h rfl rfl rfl rfl rfl rfl rfl rfl rfl rfl
  · rw [if_neg h]
    unfold epSize
    by_cases h0 : k = 0
    · subst h0; rfl
    · rw [if_neg (by omega)]

theorem ref_Eeprom (k : Int) : Fn Tryz.prog σ 95 #[int k] F (fun v l => v = int (epSize k) ∧ l = F) := by
  refine Fn.of Tryz.func95 rfl Tryz.ntmps95 rfl ?_
  repeat' (first | (first | (apply JO.ru; exact rfl; exact rfl; exact rfl; (first | (apply Ru.move; exact rfl) | (apply Ru.assign; exact rfl))) | refine JC.seq ?_ | refine JC.region ?_ | refine JO.nil ?_ | refine JE.thenN ?_ | refine JC.ret ?_ | (apply JO.do; exact rfl; exact rfl; exact rfl; (first | (apply Do.buildSliceN; exact rfl; exact rfl; exact rfl; exact rfl) | (apply Do.buildSlice; exact rfl; exact rfl; exact rfl; exact rfl)); rintro _ _ ⟨_, rfl, rfl⟩) | (apply JE.done1; exact rfl; (first | (apply Res.tmp; exact rfl) | (apply Res.cell; exact rfl; (repeat (first | exact Pick.here | apply Pick.there)); exact rfl) | (apply Res.cellAN; exact rfl; (repeat (first | exact Pick.here | apply Pick.there)); exact rfl; exact rfl) | (apply Res.cellA; exact rfl; (repeat (first | exact Pick.here | apply Pick.there)); exact rfl; exact rfl)))) | (first | (apply JO.do; exact rfl; exact rfl; exact rfl; (apply Do.call; exact rfl; exact ref_at _ _ [128, 256, 512, 1024, 2048, 4096, 8192, 16384, 32768, 65536] _ rfl Pick.here); rintro _ _ ⟨rfl, hq⟩; obtain rfl := hq.symm) | (apply JQ.call; exact rfl; exact rfl; exact rfl; exact ref_at _ _ [128, 256, 512, 1024, 2048, 4096, 8192, 16384, 32768, 65536] _ rfl Pick.here; (rintro _ _ ⟨rfl, rfl⟩; exact ⟨rfl, rfl⟩))))
  refine finD (finS ?_); exact ⟨by rw [epT_at], rfl⟩

theorem ref_Flash (a : Int) : Fn Tryz.prog σ 96 #[int a] F (fun v l => v = int (flSize a) ∧ l = F) := by
  refine Fn.of Tryz.func96 rfl Tryz.ntmps96 rfl ?_
  repeat' (first | (apply JO.ru; exact rfl; exact rfl; exact rfl; (first | (apply Ru.move; exact rfl) | (apply Ru.assign; exact rfl) | (apply Ru.mul; exact rfl; exact rfl; (first | exact wrapI (by omega) (by omega) | exact rfl)) | (apply Ru.pickT; exact rfl; exact rfl) | (apply Ru.pickF; exact rfl; exact rfl))) | refine JC.seq ?_ | refine JC.region ?_ | refine JO.nil ?_ | refine JE.thenN ?_ | refine JE.thenR ?_ | refine JC.ret ?_ | refine JC.skip ?_ | refine JC.condT rfl ?_ | refine JC.condF rfl ?_ | (apply JO.split; exact rfl; exact rfl; exact rfl; (first | (apply Ru.lss; exact rfl; exact rfl; exact rfl) | (apply Ru.gtr; exact rfl; exact rfl; exact rfl)); all_goals intro _) | refine JO.guardF rfl rfl rfl rfl rfl rfl rfl ?_ | refine JO.guardT rfl rfl rfl rfl ?_ | (apply JE.done1; exact rfl; (first | (apply Res.tmp; exact rfl) | (apply Res.cell; exact rfl; (repeat (first | exact Pick.here | apply Pick.there)); exact rfl) | (apply Res.cellAN; exact rfl; (repeat (first | exact Pick.here | apply Pick.there)); exact rfl; exact rfl) | (apply Res.cellA; exact rfl; (repeat (first | exact Pick.here | apply Pick.there)); exact rfl; exact rfl))))
  all_goals (refine finS ?_; exact ⟨by unfold flSize; split <;> (first | rfl | omega | (congr 1; omega)), rfl⟩)

theorem ref_Sram (a : Int) : Fn Tryz.prog σ 97 #[int a] F (fun v l => v = int (srSize a) ∧ l = F) := by
  refine Fn.of Tryz.func97 rfl Tryz.ntmps97 rfl ?_
  repeat' (first | (apply JO.ru; exact rfl; exact rfl; exact rfl; (first | (apply Ru.move; exact rfl) | (apply Ru.assign; exact rfl) | (apply Ru.mul; exact rfl; exact rfl; (first | exact wrapI (by omega) (by omega) | exact rfl)) | (apply Ru.pickT; exact rfl; exact rfl) | (apply Ru.pickF; exact rfl; exact rfl))) | refine JC.seq ?_ | refine JC.region ?_ | refine JO.nil ?_ | refine JE.thenN ?_ | refine JE.thenR ?_ | refine JC.ret ?_ | refine JC.skip ?_ | refine JC.condT rfl ?_ | refine JC.condF rfl ?_ | (apply JO.split; exact rfl; exact rfl; exact rfl; (first | (apply Ru.lss; exact rfl; exact rfl; exact rfl) | (apply Ru.gtr; exact rfl; exact rfl; exact rfl)); all_goals intro _) | refine JO.guardF rfl rfl rfl rfl rfl rfl rfl ?_ | refine JO.guardT rfl rfl rfl rfl ?_ | (apply JE.done1; exact rfl; (first | (apply Res.tmp; exact rfl) | (apply Res.cell; exact rfl; (repeat (first | exact Pick.here | apply Pick.there)); exact rfl) | (apply Res.cellAN; exact rfl; (repeat (first | exact Pick.here | apply Pick.there)); exact rfl; exact rfl) | (apply Res.cellA; exact rfl; (repeat (first | exact Pick.here | apply Pick.there)); exact rfl; exact rfl))))
  all_goals (refine finS ?_; exact ⟨by unfold srSize; split <;> (first | rfl | omega | (congr 1; omega)), rfl⟩)

set_option maxHeartbeats 1000000 in
theorem ref_Total (e f s : Int) : Fn Tryz.prog σ 47 #[geoV e f s] F (fun v l => v = int (totG e f s) ∧ l = F) := by
  refine Fn.of Tryz.func47 rfl Tryz.ntmps47 rfl ?_
  have b1 := epSize_bd e
  have b2 := flSize_bd f
  have b3 := srSize_bd s
  unfold totG
  by_cases h : rightG e f s = true
  · repeat' (first | (first | (apply JO.ru; exact rfl; exact rfl; exact rfl; (first | (apply Ru.move; exact rfl) | (apply Ru.assign; exact rfl) | (apply Ru.not; exact rfl) | (apply Ru.loadAN; exact rfl; (repeat (first | exact Pick.here | apply Pick.there)); exact rfl; exact rfl))) | refine JC.seq ?_ | refine JC.region ?_ | refine JO.nil ?_ | refine JE.thenN ?_ | refine JC.ret ?_ | refine JC.skip ?_ | refine JC.condF rfl ?_ | (apply JQ.ru; exact rfl; exact rfl; exact rfl; (first | (apply Ru.loadN; exact rfl; (repeat (first | exact Pick.here | apply Pick.there)); exact rfl) | (apply Ru.fieldAddr; exact rfl) | (apply Ru.assign; exact rfl) | (apply Ru.add; exact rfl; exact rfl; (first | exact wrapI (by omega) (by omega) | exact rfl)))) | refine JQ.nil ?_ | (apply JO.do; exact rfl; exact rfl; exact rfl; (first | (apply Do.boxN; exact rfl; exact rfl) | (apply Do.box; exact rfl)); rintro _ _ ⟨_, rfl, rfl⟩) | refine JC.regionQ mixed (by decide +kernel) ?_ | (apply JE.done1; exact rfl; (first | (apply Res.tmp; exact rfl) | (apply Res.cell; exact rfl; (repeat (first | exact Pick.here | apply Pick.there)); exact rfl) | (apply Res.cellAN; exact rfl; (repeat (first | exact Pick.here | apply Pick.there)); exact rfl; exact rfl) | (apply Res.cellA; exact rfl; (repeat (first | exact Pick.here | apply Pick.there)); exact rfl; exact rfl)))) | ((first | (apply JO.do; exact rfl; exact rfl; exact rfl; (apply Do.call; exact rfl; exact ref_Right _ _ _); rintro _ _ ⟨rfl, hq⟩; obtain rfl := hq.symm) | (apply JQ.call; exact rfl; exact rfl; exact rfl; exact ref_Right _ _ _; (rintro _ _ ⟨rfl, rfl⟩; exact ⟨rfl, rfl⟩))); rw [h]) | (first | (apply JO.do; exact rfl; exact rfl; exact rfl; (apply Do.call; exact rfl; exact ref_Eeprom _); rintro _ _ ⟨rfl, hq⟩; obtain rfl := hq.symm) | (apply JQ.call; exact rfl; exact rfl; exact rfl; exact ref_Eeprom _; (rintro _ _ ⟨rfl, rfl⟩; exact ⟨rfl, rfl⟩))) | (first | (apply JO.do; exact rfl; exact rfl; exact rfl; (apply Do.call; exact rfl; exact ref_Flash _); rintro _ _ ⟨rfl, hq⟩; obtain rfl := hq.symm) | (apply JQ.call; exact rfl; exact rfl; exact rfl; exact ref_Flash _; (rintro _ _ ⟨rfl, rfl⟩; exact ⟨rfl, rfl⟩))) | (first | (apply JO.do; exact rfl; exact rfl; exact rfl; (apply Do.call; exact rfl; exact ref_Sram _); rintro _ _ ⟨rfl, hq⟩; obtain rfl := hq.symm) | (apply JQ.call; exact rfl; exact rfl; exact rfl; exact ref_Sram _; (rintro _ _ ⟨rfl, rfl⟩; exact ⟨rfl, rfl⟩))))
    refine finD (finS ?_); exact ⟨rfl, rfl⟩
  · simp only [Bool.not_eq_true] at h
    repeat' (first | (first | (apply JO.ru; exact rfl; exact rfl; exact rfl; (first | (apply Ru.move; exact rfl) | (apply Ru.assign; exact rfl) | (apply Ru.not; exact rfl) | (apply Ru.loadAN; exact rfl; (repeat (first | exact Pick.here | apply Pick.there)); exact rfl; exact rfl))) | refine JC.seq ?_ | refine JC.region ?_ | refine JO.nil ?_ | refine JE.thenN ?_ | refine JE.thenR ?_ | refine JC.ret ?_ | refine JC.condT rfl ?_ | (apply JO.do; exact rfl; exact rfl; exact rfl; (first | (apply Do.boxN; exact rfl; exact rfl) | (apply Do.box; exact rfl)); rintro _ _ ⟨_, rfl, rfl⟩) | (apply JE.done1; exact rfl; (first | (apply Res.tmp; exact rfl) | (apply Res.cell; exact rfl; (repeat (first | exact Pick.here | apply Pick.there)); exact rfl) | (apply Res.cellAN; exact rfl; (repeat (first | exact Pick.here | apply Pick.there)); exact rfl; exact rfl) | (apply Res.cellA; exact rfl; (repeat (first | exact Pick.here | apply Pick.there)); exact rfl; exact rfl)))) | ((first | (apply JO.do; exact rfl; exact rfl; exact rfl; (apply Do.call; exact rfl; exact ref_Right _ _ _); rintro _ _ ⟨rfl, hq⟩; obtain rfl := hq.symm) | (apply JQ.call; exact rfl; exact rfl; exact rfl; exact ref_Right _ _ _; (rintro _ _ ⟨rfl, rfl⟩; exact ⟨rfl, rfl⟩))); rw [h]))
    refine finD (finS ?_); exact ⟨rfl, rfl⟩

def fewG (e f s : Int) : Bool := !rightG e f s || decide (totG e f s ≤ 500)
set_option maxHeartbeats 1000000 in
theorem ref_Few (e f s : Int) : Fn Tryz.prog σ 13 #[geoV e f s] F (fun v l => v = .bool (fewG e f s) ∧ l = F) := by
  refine Fn.of Tryz.func13 rfl Tryz.ntmps13 rfl ?_
  unfold fewG
  by_cases h : rightG e f s = true
  · repeat' (first | (first | (apply JO.ru; exact rfl; exact rfl; exact rfl; (first | (apply Ru.move; exact rfl) | (apply Ru.assign; exact rfl) | (apply Ru.pickF; exact rfl; exact rfl) | (apply Ru.not; exact rfl) | (apply Ru.loadAN; exact rfl; (repeat (first | exact Pick.here | apply Pick.there)); exact rfl; exact rfl))) | refine JC.seq ?_ | refine JC.region ?_ | refine JO.nil ?_ | refine JE.thenN ?_ | refine JC.ret ?_ | (apply JO.split; exact rfl; exact rfl; exact rfl; ((apply Ru.leq; exact rfl; exact rfl; exact rfl)); all_goals intro _) | refine JO.guardT rfl rfl rfl rfl ?_ | (apply JO.do; exact rfl; exact rfl; exact rfl; (first | (apply Do.boxN; exact rfl; exact rfl) | (apply Do.box; exact rfl)); rintro _ _ ⟨_, rfl, rfl⟩) | (apply JE.done1; exact rfl; (first | (apply Res.tmp; exact rfl) | (apply Res.cell; exact rfl; (repeat (first | exact Pick.here | apply Pick.there)); exact rfl) | (apply Res.cellAN; exact rfl; (repeat (first | exact Pick.here | apply Pick.there)); exact rfl; exact rfl) | (apply Res.cellA; exact rfl; (repeat (first | exact Pick.here | apply Pick.there)); exact rfl; exact rfl)))) | ((first | (apply JO.do; exact rfl; exact rfl; exact rfl; (apply Do.call; exact rfl; exact ref_Right _ _ _); rintro _ _ ⟨rfl, hq⟩; obtain rfl := hq.symm) | (apply JQ.call; exact rfl; exact rfl; exact rfl; exact ref_Right _ _ _; (rintro _ _ ⟨rfl, rfl⟩; exact ⟨rfl, rfl⟩))); rw [h]) | (first | (apply JO.do; exact rfl; exact rfl; exact rfl; (apply Do.call; exact rfl; exact ref_Total _ _ _); rintro _ _ ⟨rfl, hq⟩; obtain rfl := hq.symm) | (apply JQ.call; exact rfl; exact rfl; exact rfl; exact ref_Total _ _ _; (rintro _ _ ⟨rfl, rfl⟩; exact ⟨rfl, rfl⟩))))
    all_goals (refine finD (finS ?_); exact ⟨by simp; omega, rfl⟩)
  · simp only [Bool.not_eq_true] at h
    repeat' (first | (first | (apply JO.ru; exact rfl; exact rfl; exact rfl; (first | (apply Ru.move; exact rfl) | (apply Ru.assign; exact rfl) | (apply Ru.pickT; exact rfl; exact rfl) | (apply Ru.not; exact rfl) | (apply Ru.loadAN; exact rfl; (repeat (first | exact Pick.here | apply Pick.there)); exact rfl; exact rfl))) | refine JC.seq ?_ | refine JC.region ?_ | refine JO.nil ?_ | refine JE.thenN ?_ | refine JC.ret ?_ | refine JO.guardF rfl rfl rfl rfl rfl rfl rfl ?_ | (apply JO.do; exact rfl; exact rfl; exact rfl; (first | (apply Do.boxN; exact rfl; exact rfl) | (apply Do.box; exact rfl)); rintro _ _ ⟨_, rfl, rfl⟩) | (apply JE.done1; exact rfl; (first | (apply Res.tmp; exact rfl) | (apply Res.cell; exact rfl; (repeat (first | exact Pick.here | apply Pick.there)); exact rfl) | (apply Res.cellAN; exact rfl; (repeat (first | exact Pick.here | apply Pick.there)); exact rfl; exact rfl) | (apply Res.cellA; exact rfl; (repeat (first | exact Pick.here | apply Pick.there)); exact rfl; exact rfl)))) | ((first | (apply JO.do; exact rfl; exact rfl; exact rfl; (apply Do.call; exact rfl; exact ref_Right _ _ _); rintro _ _ ⟨rfl, hq⟩; obtain rfl := hq.symm) | (apply JQ.call; exact rfl; exact rfl; exact rfl; exact ref_Right _ _ _; (rintro _ _ ⟨rfl, rfl⟩; exact ⟨rfl, rfl⟩))); rw [h]))
    refine finD (finS ?_); exact ⟨rfl, rfl⟩

def sizeOk (m : Int) : Bool := decide (1 ≤ m ∧ m ≤ 4096)
/-- How many sectors bytes need. -/
def secs (many size : Int) : Int := if many < 1 ∨ size < 1 ∨ 4096 < size then 0 else (many - 1) / size + 1
theorem image_right (m : Int) : Fn Tryz.prog σ 111 #[int m] F (fun v l => v = .bool (sizeOk m) ∧ l = F) := by
  refine Fn.of Tryz.func111 rfl Tryz.ntmps111 rfl ?_
  repeat' (first | (apply JO.ru; exact rfl; exact rfl; exact rfl; (first | (apply Ru.move; exact rfl) | (apply Ru.assign; exact rfl) | (apply Ru.pickT; exact rfl; exact rfl) | (apply Ru.pickF; exact rfl; exact rfl))) | refine JC.seq ?_ | refine JC.region ?_ | refine JO.nil ?_ | refine JE.thenN ?_ | refine JC.ret ?_ | (apply JO.split; exact rfl; exact rfl; exact rfl; (first | (apply Ru.leq; exact rfl; exact rfl; exact rfl) | (apply Ru.geq; exact rfl; exact rfl; exact rfl)); all_goals intro _) | refine JO.guardF rfl rfl rfl rfl rfl rfl rfl ?_ | refine JO.guardT rfl rfl rfl rfl ?_ | (apply JE.done1; exact rfl; (first | (apply Res.tmp; exact rfl) | (apply Res.cell; exact rfl; (repeat (first | exact Pick.here | apply Pick.there)); exact rfl) | (apply Res.cellAN; exact rfl; (repeat (first | exact Pick.here | apply Pick.there)); exact rfl; exact rfl) | (apply Res.cellA; exact rfl; (repeat (first | exact Pick.here | apply Pick.there)); exact rfl; exact rfl))))
  all_goals (refine finS ?_; exact ⟨by simp [sizeOk]; omega, rfl⟩)

theorem div_le_self' {a b : Int} (h : 0 ≤ a) : 0 ≤ a / b ∨ b < 0 := by
  by_cases hb : b < 0
  · exact .inr hb
  · exact .inl (Int.ediv_nonneg h (by omega))
theorem secs_bd {m s : Int} (h : 0 ≤ m) : 0 ≤ secs m s ∧ secs m s ≤ m := by
  unfold secs
  split
  · omega
  · rename_i hh
    have a1 : 0 ≤ (m - 1) / s := Int.ediv_nonneg (by omega) (by omega)
    have a2 : (m - 1) / s ≤ m - 1 := Int.ediv_le_self _ (by omega)
    omega

set_option maxHeartbeats 1000000 in
theorem image_Sectors (m s : Int) (hm : m ≤ 9000000000000000000) : Fn Tryz.prog σ 101 #[int m, int s] F (fun v l => v = int (secs m s) ∧ l = F) := by
  refine Fn.of Tryz.func101 rfl Tryz.ntmps101 rfl ?_
  unfold secs
  by_cases h0 : m < 1
  · repeat' (first | (apply JO.ru; exact rfl; exact rfl; exact rfl; (first | (apply Ru.move; exact rfl) | (apply Ru.assign; exact rfl) | (apply Ru.lss; exact rfl; exact rfl; (first | exact decT (by omega) | exact decF (by omega))) | (apply Ru.pickT; exact rfl; exact rfl))) | refine JC.seq ?_ | refine JC.region ?_ | refine JO.nil ?_ | refine JE.thenN ?_ | refine JE.thenR ?_ | refine JC.ret ?_ | refine JC.condT rfl ?_ | refine JO.guardF rfl rfl rfl rfl rfl rfl rfl ?_ | (apply JE.done1; exact rfl; (first | (apply Res.tmp; exact rfl) | (apply Res.cell; exact rfl; (repeat (first | exact Pick.here | apply Pick.there)); exact rfl) | (apply Res.cellAN; exact rfl; (repeat (first | exact Pick.here | apply Pick.there)); exact rfl; exact rfl) | (apply Res.cellA; exact rfl; (repeat (first | exact Pick.here | apply Pick.there)); exact rfl; exact rfl))))
    refine finS ?_; exact ⟨by rw [if_pos (by omega)], rfl⟩
  · by_cases h : sizeOk s = true
    · have h' : 1 ≤ s ∧ s ≤ 4096 := by simpa [sizeOk] using h
      have a1 : 0 ≤ (m - 1) / s := Int.ediv_nonneg (by omega) (by omega)
      have a2 : (m - 1) / s ≤ m - 1 := Int.ediv_le_self _ (by omega)
      repeat' (first | (first | (apply JO.ru; exact rfl; exact rfl; exact rfl; (first | (apply Ru.move; exact rfl) | (apply Ru.assign; exact rfl) | (apply Ru.lss; exact rfl; exact rfl; (first | exact decT (by omega) | exact decF (by omega))) | (apply Ru.add; exact rfl; exact rfl; (first | exact wrapI (by omega) (by omega) | exact rfl)) | (apply Ru.sub; exact rfl; exact rfl; (first | exact wrapI (by omega) (by omega) | exact rfl)) | (apply Ru.pickF; exact rfl; exact rfl) | (apply Ru.not; exact rfl) | (apply Ru.quoN; exact rfl; exact rfl; omega; omega; omega))) | refine JC.seq ?_ | refine JC.region ?_ | refine JO.nil ?_ | refine JE.thenN ?_ | refine JC.ret ?_ | refine JC.skip ?_ | refine JC.condF rfl ?_ | refine JO.guardT rfl rfl rfl rfl ?_ | (apply JE.done1; exact rfl; (first | (apply Res.tmp; exact rfl) | (apply Res.cell; exact rfl; (repeat (first | exact Pick.here | apply Pick.there)); exact rfl) | (apply Res.cellAN; exact rfl; (repeat (first | exact Pick.here | apply Pick.there)); exact rfl; exact rfl) | (apply Res.cellA; exact rfl; (repeat (first | exact Pick.here | apply Pick.there)); exact rfl; exact rfl)))) | ((first | (apply JO.do; exact rfl; exact rfl; exact rfl; (apply Do.call; exact rfl; exact image_right _); rintro _ _ ⟨rfl, hq⟩; obtain rfl := hq.symm) | (apply JQ.call; exact rfl; exact rfl; exact rfl; exact image_right _; (rintro _ _ ⟨rfl, rfl⟩; exact ⟨rfl, rfl⟩))); rw [h]))
      refine finS ?_; exact ⟨by rw [if_neg (by omega)], rfl⟩
    · simp only [Bool.not_eq_true] at h
      have h' : ¬ (1 ≤ s ∧ s ≤ 4096) := by simpa [sizeOk] using h
      repeat' (first | (first | (apply JO.ru; exact rfl; exact rfl; exact rfl; (first | (apply Ru.move; exact rfl) | (apply Ru.assign; exact rfl) | (apply Ru.lss; exact rfl; exact rfl; (first | exact decT (by omega) | exact decF (by omega))) | (apply Ru.pickF; exact rfl; exact rfl) | (apply Ru.not; exact rfl))) | refine JC.seq ?_ | refine JC.region ?_ | refine JO.nil ?_ | refine JE.thenN ?_ | refine JE.thenR ?_ | refine JC.ret ?_ | refine JC.condT rfl ?_ | refine JO.guardT rfl rfl rfl rfl ?_ | (apply JE.done1; exact rfl; (first | (apply Res.tmp; exact rfl) | (apply Res.cell; exact rfl; (repeat (first | exact Pick.here | apply Pick.there)); exact rfl) | (apply Res.cellAN; exact rfl; (repeat (first | exact Pick.here | apply Pick.there)); exact rfl; exact rfl) | (apply Res.cellA; exact rfl; (repeat (first | exact Pick.here | apply Pick.there)); exact rfl; exact rfl)))) | ((first | (apply JO.do; exact rfl; exact rfl; exact rfl; (apply Do.call; exact rfl; exact image_right _); rintro _ _ ⟨rfl, hq⟩; obtain rfl := hq.symm) | (apply JQ.call; exact rfl; exact rfl; exact rfl; exact image_right _; (rintro _ _ ⟨rfl, rfl⟩; exact ⟨rfl, rfl⟩))); rw [h]))
      refine finS ?_; exact ⟨by rw [if_pos (by omega)], rfl⟩

/-- How many sectors a slot has. -/
def spanG (size e f s : Int) : Int := if rightG e f s = true ∧ 32 ≤ size ∧ size ≤ 4096 then 1 + secs (totG e f s) size else 0
theorem spanG_bd (size e f s : Int) : 0 ≤ spanG size e f s ∧ spanG size e f s ≤ 90113 := by
  have := totG_bd e f s
  have := secs_bd (m := totG e f s) (s := size) (by omega)
  unfold spanG; split <;> omega
set_option maxHeartbeats 1000000 in
theorem slot_Span (size e f s : Int) [hg : InG F] : Fn Tryz.prog σ 59 #[int size, geoV e f s] F (fun v l => v = int (spanG size e f s) ∧ l = F) := by
  refine Fn.of Tryz.func59 rfl Tryz.ntmps59 rfl ?_
  have b1 := totG_bd e f s
  have b2 := secs_bd (m := totG e f s) (s := size) (by omega)
  unfold spanG
  by_cases h : rightG e f s = true
  · repeat' (first | (first | (apply JO.ru; exact rfl; exact rfl; exact rfl; (first | (apply Ru.move; exact rfl) | (apply Ru.assign; exact rfl) | (apply Ru.add; exact rfl; exact rfl; (first | exact wrapI (by omega) (by omega) | exact rfl)) | (apply Ru.pickT; exact rfl; exact rfl) | (apply Ru.pickF; exact rfl; exact rfl) | (apply Ru.not; exact rfl) | (apply Ru.loadAN; exact rfl; (repeat (first | exact Pick.here | apply Pick.there)); exact rfl; exact rfl))) | refine JC.seq ?_ | refine JC.region ?_ | refine JO.nil ?_ | refine JE.thenN ?_ | refine JE.thenR ?_ | refine JC.ret ?_ | refine JC.skip ?_ | refine JC.condT rfl ?_ | refine JC.condF rfl ?_ | (apply JO.split; exact rfl; exact rfl; exact rfl; (first | (apply Ru.lss; exact rfl; exact rfl; exact rfl) | (apply Ru.gtr; exact rfl; exact rfl; exact rfl)); all_goals intro _) | refine JO.guardF rfl rfl rfl rfl rfl rfl rfl ?_ | refine JO.guardT rfl rfl rfl rfl ?_ | (apply JO.do; exact rfl; exact rfl; exact rfl; (first | (apply Do.boxN; exact rfl; exact rfl) | (apply Do.box; exact rfl)); rintro _ _ ⟨_, rfl, rfl⟩) | (apply JE.done1; exact rfl; (first | (apply Res.tmp; exact rfl) | (apply Res.cell; exact rfl; (repeat (first | exact Pick.here | apply Pick.there)); exact rfl) | (apply Res.cellAN; exact rfl; (repeat (first | exact Pick.here | apply Pick.there)); exact rfl; exact rfl) | (apply Res.cellA; exact rfl; (repeat (first | exact Pick.here | apply Pick.there)); exact rfl; exact rfl)))) | ((first | (apply JO.do; exact rfl; exact rfl; exact rfl; (apply Do.call; exact rfl; exact geo_Right _ _ _); rintro _ _ ⟨rfl, hq⟩; obtain rfl := hq.symm) | (apply JQ.call; exact rfl; exact rfl; exact rfl; exact geo_Right _ _ _; (rintro _ _ ⟨rfl, rfl⟩; exact ⟨rfl, rfl⟩))); rw [h]) | (first | (apply JO.do; exact rfl; exact rfl; exact rfl; (apply Do.call; exact rfl; exact geo_Total _ _ _); rintro _ _ ⟨rfl, hq⟩; obtain rfl := hq.symm) | (apply JQ.call; exact rfl; exact rfl; exact rfl; exact geo_Total _ _ _; (rintro _ _ ⟨rfl, rfl⟩; exact ⟨rfl, rfl⟩))) | (first | (apply JO.do; exact rfl; exact rfl; exact rfl; (apply Do.call; exact rfl; exact image_Sectors _ _ (by omega)); rintro _ _ ⟨rfl, hq⟩; obtain rfl := hq.symm) | (apply JQ.call; exact rfl; exact rfl; exact rfl; exact image_Sectors _ _ (by omega); (rintro _ _ ⟨rfl, rfl⟩; exact ⟨rfl, rfl⟩))))
    all_goals (refine finD (finS ?_); exact ⟨by first | rw [if_pos ⟨rfl, by omega⟩] | rw [if_neg (by omega)], rfl⟩)
  · simp only [Bool.not_eq_true] at h
    repeat' (first | (first | (apply JO.ru; exact rfl; exact rfl; exact rfl; (first | (apply Ru.move; exact rfl) | (apply Ru.assign; exact rfl) | (apply Ru.pickT; exact rfl; exact rfl) | (apply Ru.not; exact rfl) | (apply Ru.loadAN; exact rfl; (repeat (first | exact Pick.here | apply Pick.there)); exact rfl; exact rfl))) | refine JC.seq ?_ | refine JC.region ?_ | refine JO.nil ?_ | refine JE.thenN ?_ | refine JE.thenR ?_ | refine JC.ret ?_ | refine JC.condT rfl ?_ | refine JO.guardF rfl rfl rfl rfl rfl rfl rfl ?_ | (apply JO.do; exact rfl; exact rfl; exact rfl; (first | (apply Do.boxN; exact rfl; exact rfl) | (apply Do.box; exact rfl)); rintro _ _ ⟨_, rfl, rfl⟩) | (apply JE.done1; exact rfl; (first | (apply Res.tmp; exact rfl) | (apply Res.cell; exact rfl; (repeat (first | exact Pick.here | apply Pick.there)); exact rfl) | (apply Res.cellAN; exact rfl; (repeat (first | exact Pick.here | apply Pick.there)); exact rfl; exact rfl) | (apply Res.cellA; exact rfl; (repeat (first | exact Pick.here | apply Pick.there)); exact rfl; exact rfl)))) | ((first | (apply JO.do; exact rfl; exact rfl; exact rfl; (apply Do.call; exact rfl; exact geo_Right _ _ _); rintro _ _ ⟨rfl, hq⟩; obtain rfl := hq.symm) | (apply JQ.call; exact rfl; exact rfl; exact rfl; exact geo_Right _ _ _; (rintro _ _ ⟨rfl, rfl⟩; exact ⟨rfl, rfl⟩))); rw [h]))
    refine finD (finS ?_); exact ⟨by simp, rfl⟩

set_option maxHeartbeats 1000000 in
theorem slot_Room (size e f s : Int) [hg : InG F] : Fn Tryz.prog σ 60 #[int size, geoV e f s] F (fun v l => v = int (2 * spanG size e f s) ∧ l = F) := by
  refine Fn.of Tryz.func60 rfl Tryz.ntmps60 rfl ?_
  have b1 := spanG_bd size e f s
  repeat' (first | (first | (apply JO.ru; exact rfl; exact rfl; exact rfl; (first | (apply Ru.move; exact rfl) | (apply Ru.assign; exact rfl) | (apply Ru.mul; exact rfl; exact rfl; (first | exact wrapI (by omega) (by omega) | exact rfl)) | (apply Ru.loadAN; exact rfl; (repeat (first | exact Pick.here | apply Pick.there)); exact rfl; exact rfl))) | refine JC.seq ?_ | refine JC.region ?_ | refine JO.nil ?_ | refine JE.thenN ?_ | refine JC.ret ?_ | (apply JO.do; exact rfl; exact rfl; exact rfl; (first | (apply Do.boxN; exact rfl; exact rfl) | (apply Do.box; exact rfl)); rintro _ _ ⟨_, rfl, rfl⟩) | (apply JE.done1; exact rfl; (first | (apply Res.tmp; exact rfl) | (apply Res.cell; exact rfl; (repeat (first | exact Pick.here | apply Pick.there)); exact rfl) | (apply Res.cellAN; exact rfl; (repeat (first | exact Pick.here | apply Pick.there)); exact rfl; exact rfl) | (apply Res.cellA; exact rfl; (repeat (first | exact Pick.here | apply Pick.there)); exact rfl; exact rfl)))) | (first | (apply JO.do; exact rfl; exact rfl; exact rfl; (apply Do.call; exact rfl; exact slot_Span _ _ _ _); rintro _ _ ⟨rfl, hq⟩; obtain rfl := hq.symm) | (apply JQ.call; exact rfl; exact rfl; exact rfl; exact slot_Span _ _ _ _; (rintro _ _ ⟨rfl, rfl⟩; exact ⟨rfl, rfl⟩))))
  refine finD (finS ?_); exact ⟨rfl, rfl⟩
end Go.Sep
